/-
  What the functions of hist hand back: events.
-/
import Derived.Test.YthojkngbpcjicaaH2
namespace Go.Proofs.Ythojkngbpcjicaa
open Go Go.Lite
set_option linter.unusedSimpArgs false
set_option linter.unusedVariables false


structure Ev where
  txn : Int
  kind : Int
  key : Bs
  value : Bs
  n : Int
  pairs : List Pr
  ok : Bool
def eE (e : Ev) : V := .agg [.int .i64 e.txn, .int .i64 e.kind, .str e.key, .str e.value, .int .i64 e.n, .sl (ePs e.pairs), .bool e.ok]
abbrev eEs (l : List Ev) : List V := l.map eE
theorem d30_eE (e : Ev) (k : Int → Int → Bs → Bs → Int → List V → Bool → R) : d30 (eE e) k = k e.txn e.kind e.key e.value e.n (ePs e.pairs) e.ok := rfl
theorem d28_eE (e : Ev) (k : Int → Int → Bs → Bs → Int → List V → Bool → R) : d28 (eE e) k = k e.txn e.kind e.key e.value e.n (ePs e.pairs) e.ok := rfl
theorem wfl_eE (l : List Ev) : wfl 7 (l.map eE) = true := wfl_map fun _ => rfl
theorem eE_agg (t c : Int) (k v : Bs) (n : Int) (ps : List Pr) (b : Bool) : V.agg [V.int .i64 t, V.int .i64 c, V.str k, V.str v, V.int .i64 n, V.sl (List.map eP ps), V.bool b] = eE ⟨t, c, k, v, n, ps, b⟩ := rfl
theorem ev_eta (e : Ev) : Ev.mk e.txn e.kind e.key e.value e.n e.pairs e.ok = e := rfl
def eI (n : Nat) : V := .int .i64 (n : Int)
abbrev eIs (l : List Nat) : List V := l.map eI
theorem kI_eI (n : Nat) (k : Int → R) : kI .i64 (eI n) k = k (n : Int) := by simp [eI]
def eS (s : Nat × Nat) : V := .agg [.int .i64 s.1, .int .i64 s.2]
abbrev eSs (l : List (Nat × Nat)) : List V := l.map eS
theorem d56_eS (s : Nat × Nat) (k : Int → Int → R) : d56 (eS s) k = k s.1 s.2 := rfl

/-! ### maps -/

theorem sorted_filter {m : List Pr} (h : Sorted m) (f : Pr → Bool) : Sorted (m.filter f) := List.Pairwise.filter _ h
theorem takeWhile_append_dropWhile' {m : List Pr} (f : Pr → Bool) : m.takeWhile f ++ m.dropWhile f = m := List.takeWhile_append_dropWhile
theorem lb_take (m : List Pr) (k : Bs) : m.takeWhile (fun q => lt q.1 k) = m.take (lb m k) := by
  induction m with
  | nil => rfl
  | cons p m ih =>
    rw [lb_cons]
    by_cases h : lt p.1 k = true <;> simp [h, ih]
theorem lb_drop (m : List Pr) (k : Bs) : m.dropWhile (fun q => lt q.1 k) = m.drop (lb m k) := by
  induction m with
  | nil => rfl
  | cons p m ih =>
    rw [lb_cons]
    by_cases h : lt p.1 k = true <;> simp [h, ih]

theorem mem_take_lb {m : List Pr} {k : Bs} {q : Pr} (h : q ∈ m.take (lb m k)) : lt q.1 k = true := by
  rw [← lb_take] at h
  have := List.all_takeWhile (l := m) (p := fun q : Pr => lt q.1 k)
  exact List.all_eq_true.1 this q h
theorem mem_drop_lb {m : List Pr} (hs : Sorted m) {k : Bs} {q : Pr} (h : q ∈ m.drop (lb m k)) : lt q.1 k = false := by
  obtain ⟨i, hi⟩ := List.getElem?_of_mem h
  rw [List.getElem?_drop] at hi
  have := lb_iff hs k hi
  cases e : lt q.1 k with
  | false => rfl
  | true => have := this.1 e; omega

/-- sorted rows with the same pairs are the same -/
theorem sorted_ext {a b : List Pr} (ha : Sorted a) (hb : Sorted b) (h : ∀ x, x ∈ a ↔ x ∈ b) : a = b := by
  induction a generalizing b with
  | nil =>
    cases b with
    | nil => rfl
    | cons y b => have := (h y).2 (by simp); simp at this
  | cons x a ih =>
    cases b with
    | nil => have := (h x).1 (by simp); simp at this
    | cons y b =>
      have ha' := List.pairwise_cons.1 ha
      have hb' := List.pairwise_cons.1 hb
      have hxy : x = y := by
        have h1 := (h x).1 (by simp)
        have h2 := (h y).2 (by simp)
        simp only [List.mem_cons] at h1 h2
        rcases h1 with h1 | h1
        · exact h1
        · rcases h2 with h2 | h2
          · exact h2.symm
          · have q1 := hb'.1 x h1
            have q2 := ha'.1 y h2
            have := lt_asymm q1
            rw [q2] at this; cases this
      subst hxy
      rw [ih ha'.2 hb'.2 ?_]
      intro z
      constructor
      · intro hz
        have := (h z).1 (by simp [hz])
        simp only [List.mem_cons] at this
        rcases this with rfl | this
        · have := ha'.1 z hz; rw [lt_irr] at this; cases this
        · exact this
      · intro hz
        have := (h z).2 (by simp [hz])
        simp only [List.mem_cons] at this
        rcases this with rfl | this
        · have := hb'.1 z hz; rw [lt_irr] at this; cases this
        · exact this

theorem put_sorted {m : List Pr} (hs : Sorted m) (p : Pr) {r : List Pr} (hr : r.Sublist (m.drop (lb m p.1))) (hn : ∀ q ∈ r, q.1 ≠ p.1) : Sorted (m.take (lb m p.1) ++ [p] ++ r) := by
  unfold Sorted
  rw [List.append_assoc, List.pairwise_append]
  have hd : Sorted (m.drop (lb m p.1)) := List.Pairwise.sublist (List.drop_sublist _ _) hs
  have gt : ∀ q ∈ r, lt p.1 q.1 = true := fun q hq => lt_tri (mem_drop_lb hs (hr.mem hq)) (hn q hq)
  refine ⟨List.Pairwise.sublist (List.take_sublist _ _) hs, ?_, ?_⟩
  · simp only [List.singleton_append, List.pairwise_cons]
    exact ⟨gt, List.Pairwise.sublist hr hd⟩
  · intro a ha b hb
    have h1 := mem_take_lb ha
    simp only [List.singleton_append, List.mem_cons] at hb
    rcases hb with rfl | hb
    · exact h1
    · exact lt_trans h1 (gt b hb)

theorem layR_sorted {m : List Pr} (hs : Sorted m) (p : Pr) : Sorted (layR m p) :=
  put_sorted hs p List.filter_sublist (fun q hq => by simpa using (List.mem_filter.1 hq).2)
theorem mem_layR {m : List Pr} (hs : Sorted m) (p x : Pr) : x ∈ layR m p ↔ x = p ∨ (x ∈ m ∧ x.1 ≠ p.1) := by
  unfold layR
  simp only [List.mem_append, List.mem_singleton, List.mem_filter, Bool.not_eq_true', beq_eq_false_iff_ne, ne_eq]
  constructor
  · rintro ((h | h) | ⟨h, h'⟩)
    · exact .inr ⟨List.mem_of_mem_take h, lt_ne (mem_take_lb h)⟩
    · exact .inl h
    · exact .inr ⟨List.mem_of_mem_drop h, h'⟩
  · rintro (h | ⟨h, h'⟩)
    · exact .inl (.inr h)
    · rw [← List.take_append_drop (lb m p.1) m, List.mem_append] at h
      rcases h with h | h
      · exact .inl (.inl h)
      · exact .inr ⟨h, h'⟩
theorem withP_sorted {m : List Pr} (hs : Sorted m) (p : Pr) : Sorted (withP m p) := by
  unfold withP
  rw [lb_take, lb_drop]
  refine put_sorted (sorted_filter hs _) p (List.Sublist.refl _) (fun q hq => ?_)
  have := List.mem_of_mem_drop hq
  simpa using (List.mem_filter.1 this).2
theorem withP_len (m : List Pr) (p : Pr) : (withP m p).length ≤ m.length + 1 := by
  unfold withP
  rw [lb_take, lb_drop]
  have := List.length_filter_le (fun q : Pr => !(q.1 == p.1)) m
  simp only [List.length_append, List.length_take, List.length_singleton, List.length_drop]
  omega
theorem layR_len (m : List Pr) (p : Pr) : (layR m p).length ≤ m.length + 1 := by
  unfold layR
  have := List.length_filter_le (fun q : Pr => !(q.1 == p.1)) (m.drop (lb m p.1))
  simp only [List.length_append, List.length_take, List.length_singleton, List.length_drop] at this ⊢
  omega

/-- the key that stands at its place stands nowhere else -/
theorem has_iff {m : List Pr} (hs : Sorted m) (k : Bs) : has m k = true ↔ ∃ p ∈ m, p.1 = k := by
  constructor
  · intro h
    obtain ⟨p, h1, h2, _⟩ := has_lt h
    exact ⟨p, List.mem_of_getElem? h1, h2⟩
  · rintro ⟨p, hp, rfl⟩
    obtain ⟨i, hi⟩ := List.getElem?_of_mem hp
    have hle : lb m p.1 ≤ i := by
      have := lb_iff hs p.1 hi
      rw [lt_irr] at this
      simp at this; exact this
    have hlt : i < m.length := (List.getElem?_eq_some_iff.1 hi).1
    have h1 : m[lb m p.1]? = some m[lb m p.1] := List.getElem?_eq_getElem (by omega)
    rcases Nat.lt_or_ge (lb m p.1) i with h2 | h2
    · have q1 : lt m[lb m p.1].1 p.1 = false := by
        cases e : lt m[lb m p.1].1 p.1 with
        | false => rfl
        | true => have := (lb_iff hs p.1 h1).1 e; omega
      have q2 : lt m[lb m p.1].1 p.1 = true := by
        have hi' : m[i] = p := by rw [List.getElem?_eq_getElem hlt] at hi; exact Option.some.inj hi
        have := List.pairwise_iff_getElem.1 hs (lb m p.1) i (by omega) hlt h2
        rw [hi'] at this; exact this
      rw [q1] at q2; cases q2
    · have : lb m p.1 = i := by omega
      unfold has
      rw [this, hi]; simp

theorem cut_filter {m : List Pr} (hs : Sorted m) (k : Bs) : cutH m k = m.filter fun q => !(q.1 == k) := by
  unfold cutH
  cases h : has m k with
  | false =>
    rw [if_neg (by simp)]
    symm
    rw [List.filter_eq_self]
    intro q hq
    have : ¬ ∃ p ∈ m, p.1 = k := fun e => by rw [(has_iff hs k).2 e] at h; cases h
    simp only [Bool.not_eq_true', beq_eq_false_iff_ne, ne_eq]
    exact fun e => this ⟨q, hq, e⟩
  | true =>
    rw [if_pos rfl]
    obtain ⟨p, h1, h2, h3⟩ := has_lt h
    have hp : m[lb m k] = p := by rw [List.getElem?_eq_getElem h3] at h1; exact Option.some.inj h1
    have e : m = m.take (lb m k) ++ (p :: m.drop (lb m k + 1)) := by
      rw [← hp, ← List.drop_eq_getElem_cons h3, List.take_append_drop]
    have hd := List.drop_eq_getElem_cons h3
    rw [hp] at hd
    have hpw : Sorted (p :: m.drop (lb m k + 1)) := by rw [← hd]; exact List.Pairwise.sublist (List.drop_sublist _ _) hs
    have hpw := List.pairwise_cons.1 hpw
    have f1 : (m.take (lb m k)).filter (fun q => !(q.1 == k)) = m.take (lb m k) := by
      rw [List.filter_eq_self]
      intro q hq
      simpa using lt_ne (mem_take_lb hq)
    have f2 : (m.drop (lb m k + 1)).filter (fun q => !(q.1 == k)) = m.drop (lb m k + 1) := by
      rw [List.filter_eq_self]
      intro q hq
      have := lt_ne (hpw.1 q hq)
      rw [h2] at this
      simpa using fun e => this e.symm
    conv => rhs; rw [e]
    rw [List.filter_append, f1, List.filter_cons, f2]
    simp [h2]

theorem layH_R {m : List Pr} (hs : Sorted m) (p : Pr) : layH m p = layR m p := by
  unfold layH layR
  have hc := cut_filter hs p.1
  unfold cutH at hc
  cases h : has m p.1 with
  | false =>
    rw [h] at hc
    simp only [Bool.false_eq_true, if_false] at hc ⊢
    congr 1
    symm
    rw [List.filter_eq_self]
    intro q hq
    rw [hc] at hq
    exact (List.mem_filter.1 (List.mem_of_mem_drop hq)).2
  | true =>
    simp only [if_true]
    obtain ⟨q, h1, h2, h3⟩ := has_lt h
    have hp : m[lb m p.1] = q := by rw [List.getElem?_eq_getElem h3] at h1; exact Option.some.inj h1
    have hd := List.drop_eq_getElem_cons h3
    rw [hp] at hd
    have hpw : Sorted (q :: m.drop (lb m p.1 + 1)) := by rw [← hd]; exact List.Pairwise.sublist (List.drop_sublist _ _) hs
    have hpw := List.pairwise_cons.1 hpw
    have f2 : (m.drop (lb m p.1 + 1)).filter (fun q => !(q.1 == p.1)) = m.drop (lb m p.1 + 1) := by
      rw [List.filter_eq_self]
      intro z hz
      have := lt_ne (hpw.1 z hz)
      rw [h2] at this
      simpa using fun e => this e.symm
    rw [hd, List.filter_cons, f2, List.set_eq_take_append_cons_drop]
    simp [h2, h3]

theorem lay (m : List Pr) (hs : Sorted m) (p : Pr) (hl : m.length ≤ 1000000) : pcW hcfg 24 [.sl (ePs m), eP p] = some (.fr 46 (ePs (layR m p))) := by
  rw [← layH_R hs]; exact layS m hs p hl
theorem cut (m : List Pr) (hs : Sorted m) (k : Bs) (hl : m.length ≤ 1000000) : pcW hcfg 26 [.sl (ePs m), .str k] = some (.fr 46 (ePs (m.filter fun q => !(q.1 == k)))) := by
  rw [← cut_filter hs]; exact cutS m hs k hl

/-! ### Map -/

def mapOf (l : List Pr) : List Pr := ((l.take 20).map cutP).foldl withP []

theorem map_loop (l : List Pr) (hl : l.length ≤ 20) (hc : ∀ p ∈ l, p.1.length ≤ 20) : ∀ (r : List Pr) (k : Nat) (acc : List Pr), l.drop k = r → acc.length ≤ k → k ≤ l.length →
    Go hk false 0 fa9 (.head 0 (T9_0 (ePs l) k (ePs acc))) (.done (.fr 46 (ePs (r.foldl withP acc)))) := by
  intro r
  induction r with
  | nil =>
    intro k acc hr ha hk
    have h1 := drop_nil hr
    refine s9_0_run _ _ _ ?_ (.refl _)
    simp (disch := omega) only [s9_0, List.foldl_nil, ↓cond_ite, ↓gd_ite, decide_eq_true_eq, Bool.not_eq_true', gd_true, cond_true, cond_false, if_pos, if_neg, if_true, if_false, Bool.false_eq_true, Bool.true_eq_false, toNat_cast, W_i64, List.length_map, List.length_append, List.length_cons, List.length_nil, ↓kB_mk, ↓kI_mk, ↓kS_mk, ↓kL_mk, ↓kA_mk, ↓kT_mk, ↓kF_mk, ↓unc_mk, ↓unn_mk, ↓opt_mk, Bool.not_true, Bool.not_false, Bool.and_true, Bool.true_and, Bool.and_false, Bool.false_and, beq_self_eq_true, Bool.true_beq, Bool.false_beq, Int.natCast_add, Int.natCast_one, Int.cast_ofNat_Int, List.map_append, List.map_cons, List.map_nil, List.append_assoc, List.nil_append, ↓d46_eP, wfl_eP, flat_eP, eP_agg', take_cap, take_self, take_map, wfl_nil, pr_eta, List.append_nil, ↓d30_eE, ↓d28_eE, wfl_eE, ↓d54_mk, ↓d47_mk, ↓d31_mk, ↓d56_eS, eE_agg, ev_eta, kI_eI]
  | cons x r ih =>
    intro k acc hr ha hk
    obtain ⟨h1, h2, h3⟩ := drop_cons hr
    have hw := with_ acc x (hc x (List.mem_of_getElem? h1)) (by omega)
    refine s9_0_run _ _ _ (o := .head 0 (T9_0 (ePs l) ((k + 1 : Nat) : Int) (ePs (withP acc x)))) ?_ ?_
    · simp (disch := omega) only [s9_0, idxK_map h1, pcK_of hw, ↓cond_ite, ↓gd_ite, decide_eq_true_eq, Bool.not_eq_true', gd_true, cond_true, cond_false, if_pos, if_neg, if_true, if_false, Bool.false_eq_true, Bool.true_eq_false, toNat_cast, W_i64, List.length_map, List.length_append, List.length_cons, List.length_nil, ↓kB_mk, ↓kI_mk, ↓kS_mk, ↓kL_mk, ↓kA_mk, ↓kT_mk, ↓kF_mk, ↓unc_mk, ↓unn_mk, ↓opt_mk, Bool.not_true, Bool.not_false, Bool.and_true, Bool.true_and, Bool.and_false, Bool.false_and, beq_self_eq_true, Bool.true_beq, Bool.false_beq, Int.natCast_add, Int.natCast_one, Int.cast_ofNat_Int, List.map_append, List.map_cons, List.map_nil, List.append_assoc, List.nil_append, ↓d46_eP, wfl_eP, flat_eP, eP_agg', take_cap, take_self, take_map, wfl_nil, pr_eta, List.append_nil, ↓d30_eE, ↓d28_eE, wfl_eE, ↓d54_mk, ↓d47_mk, ↓d31_mk, ↓d56_eS, eE_agg, ev_eta, kI_eI]
    · have := withP_len acc x
      exact ih (k + 1) (withP acc x) h2 (by omega) (by omega)
theorem map_ (l : List Pr) : pcW hcfg 9 [.sl (ePs l)] = some (.fr 46 (ePs (mapOf l))) := by
  refine e9_run _ (o := .head 0 (T9_0 (ePs ((l.take 20).map cutP)) ((0 : Nat) : Int) (ePs []))) ?_ (map_loop _ ?_ ?_ _ 0 [] rfl (by simp) (Nat.zero_le _))
  · simp (disch := omega) only [e9, pcK_of (pairs l), ↓cond_ite, ↓gd_ite, decide_eq_true_eq, Bool.not_eq_true', gd_true, cond_true, cond_false, if_pos, if_neg, if_true, if_false, Bool.false_eq_true, Bool.true_eq_false, toNat_cast, W_i64, List.length_map, List.length_append, List.length_cons, List.length_nil, ↓kB_mk, ↓kI_mk, ↓kS_mk, ↓kL_mk, ↓kA_mk, ↓kT_mk, ↓kF_mk, ↓unc_mk, ↓unn_mk, ↓opt_mk, Bool.not_true, Bool.not_false, Bool.and_true, Bool.true_and, Bool.and_false, Bool.false_and, beq_self_eq_true, Bool.true_beq, Bool.false_beq, Int.natCast_add, Int.natCast_one, Int.cast_ofNat_Int, List.map_append, List.map_cons, List.map_nil, List.append_assoc, List.nil_append, ↓d46_eP, wfl_eP, flat_eP, eP_agg', take_cap, take_self, take_map, wfl_nil, pr_eta, List.append_nil, ↓d30_eE, ↓d28_eE, wfl_eE, ↓d54_mk, ↓d47_mk, ↓d31_mk, ↓d56_eS, eE_agg, ev_eta, kI_eI]
  · simp only [List.length_map, List.length_take]; omega
  · intro p hp
    obtain ⟨q, _, rfl⟩ := List.mem_map.1 hp
    simp only [cutP, List.length_take]; omega
theorem mapOf_ok (l : List Pr) : Sorted (mapOf l) ∧ (mapOf l).length ≤ 20 := by
  have : ∀ (r acc : List Pr), Sorted acc → Sorted (r.foldl withP acc) ∧ (r.foldl withP acc).length ≤ acc.length + r.length := by
    intro r
    induction r with
    | nil => intro acc h; exact ⟨h, by simp⟩
    | cons x r ih =>
      intro acc h
      obtain ⟨h1, h2⟩ := ih (withP acc x) (withP_sorted h x)
      have := withP_len acc x
      exact ⟨h1, by simp only [List.foldl_cons, List.length_cons]; omega⟩
  obtain ⟨h1, h2⟩ := this ((l.take 20).map cutP) [] List.Pairwise.nil
  refine ⟨h1, ?_⟩
  unfold mapOf
  simp only [List.length_map, List.length_take, List.length_nil] at h2
  omega

/-! ### Cut of events, Ref -/

def cutE (e : Ev) : Ev := { e with key := e.key.take 20, value := e.value.take 20, pairs := (e.pairs.take 20).map cutP }
theorem cutE_loop (l : List Ev) : ∀ (r : List Ev) (k : Nat) (acc : List Ev), l.drop k = r → acc.length = k → k ≤ 60 →
    Go hk false 0 fa8 (.head 0 (T8_0 (eEs l) k (eEs acc))) (.done (.sl (eEs (acc ++ (r.take (60 - k)).map cutE)))) := by
  intro r
  induction r with
  | nil =>
    intro k acc hr ha hk
    have h1 := drop_nil hr
    refine s8_0_run _ _ _ ?_ (.refl _)
    simp (disch := omega) only [s8_0, List.take_nil, ↓cond_ite, ↓gd_ite, decide_eq_true_eq, Bool.not_eq_true', gd_true, cond_true, cond_false, if_pos, if_neg, if_true, if_false, Bool.false_eq_true, Bool.true_eq_false, toNat_cast, W_i64, List.length_map, List.length_append, List.length_cons, List.length_nil, ↓kB_mk, ↓kI_mk, ↓kS_mk, ↓kL_mk, ↓kA_mk, ↓kT_mk, ↓kF_mk, ↓unc_mk, ↓unn_mk, ↓opt_mk, Bool.not_true, Bool.not_false, Bool.and_true, Bool.true_and, Bool.and_false, Bool.false_and, beq_self_eq_true, Bool.true_beq, Bool.false_beq, Int.natCast_add, Int.natCast_one, Int.cast_ofNat_Int, List.map_append, List.map_cons, List.map_nil, List.append_assoc, List.nil_append, ↓d46_eP, wfl_eP, flat_eP, eP_agg', take_cap, take_self, take_map, wfl_nil, pr_eta, List.append_nil, ↓d30_eE, ↓d28_eE, wfl_eE, ↓d54_mk, ↓d47_mk, ↓d31_mk, ↓d56_eS, eE_agg, ev_eta, kI_eI]
  | cons x r ih =>
    intro k acc hr ha hk
    obtain ⟨h1, h2, h3⟩ := drop_cons hr
    by_cases hk2 : k < 60
    · refine s8_0_run _ _ _ (o := .head 0 (T8_0 (eEs l) ((k + 1 : Nat) : Int) (eEs (acc ++ [cutE x])))) ?_ ?_
      · simp (disch := omega) only [s8_0, idxK_map h1, cutE, pcK_of (pairs x.pairs), ↓cond_ite, ↓gd_ite, decide_eq_true_eq, Bool.not_eq_true', gd_true, cond_true, cond_false, if_pos, if_neg, if_true, if_false, Bool.false_eq_true, Bool.true_eq_false, toNat_cast, W_i64, List.length_map, List.length_append, List.length_cons, List.length_nil, ↓kB_mk, ↓kI_mk, ↓kS_mk, ↓kL_mk, ↓kA_mk, ↓kT_mk, ↓kF_mk, ↓unc_mk, ↓unn_mk, ↓opt_mk, Bool.not_true, Bool.not_false, Bool.and_true, Bool.true_and, Bool.and_false, Bool.false_and, beq_self_eq_true, Bool.true_beq, Bool.false_beq, Int.natCast_add, Int.natCast_one, Int.cast_ofNat_Int, List.map_append, List.map_cons, List.map_nil, List.append_assoc, List.nil_append, ↓d46_eP, wfl_eP, flat_eP, eP_agg', take_cap, take_self, take_map, wfl_nil, pr_eta, List.append_nil, ↓d30_eE, ↓d28_eE, wfl_eE, ↓d54_mk, ↓d47_mk, ↓d31_mk, ↓d56_eS, eE_agg, ev_eta, kI_eI]
      · have := ih (k + 1) (acc ++ [cutE x]) h2 (by simp [ha]) (by omega)
        rw [show 60 - k = (60 - (k + 1)) + 1 by omega]
        simpa using this
    · have : k = 60 := by omega
      refine s8_0_run _ _ _ ?_ (.refl _)
      simp (disch := omega) only [s8_0, this, Nat.sub_self, List.take_zero, ↓cond_ite, ↓gd_ite, decide_eq_true_eq, Bool.not_eq_true', gd_true, cond_true, cond_false, if_pos, if_neg, if_true, if_false, Bool.false_eq_true, Bool.true_eq_false, toNat_cast, W_i64, List.length_map, List.length_append, List.length_cons, List.length_nil, ↓kB_mk, ↓kI_mk, ↓kS_mk, ↓kL_mk, ↓kA_mk, ↓kT_mk, ↓kF_mk, ↓unc_mk, ↓unn_mk, ↓opt_mk, Bool.not_true, Bool.not_false, Bool.and_true, Bool.true_and, Bool.and_false, Bool.false_and, beq_self_eq_true, Bool.true_beq, Bool.false_beq, Int.natCast_add, Int.natCast_one, Int.cast_ofNat_Int, List.map_append, List.map_cons, List.map_nil, List.append_assoc, List.nil_append, ↓d46_eP, wfl_eP, flat_eP, eP_agg', take_cap, take_self, take_map, wfl_nil, pr_eta, List.append_nil, ↓d30_eE, ↓d28_eE, wfl_eE, ↓d54_mk, ↓d47_mk, ↓d31_mk, ↓d56_eS, eE_agg, ev_eta, kI_eI]
def cutL (l : List Ev) : List Ev := (l.take 60).map cutE
theorem cutEs (l : List Ev) : pcW hcfg 8 [.sl (eEs l)] = some (.sl (eEs (cutL l))) :=
  e8_run _ rfl (by simpa [cutL] using cutE_loop l l 0 [] rfl rfl (by omega))
theorem ref (e : Ev) : pcW hcfg 10 [eE e] = some (eE e) := e10_done _ _ _ _ _ _ _ rfl

theorem ints_loop (a b : List Nat) (hab : a.length = b.length) (hl : a.length ≤ 1000000) : ∀ (r s : List Nat) (k : Nat), a.drop k = r → b.drop k = s → k ≤ a.length →
    Go hk false 0 fa18 (.head 0 (T18_0 (eIs a) (eIs b) k)) (.done (.bool (r == s))) := by
  intro r
  induction r with
  | nil =>
    intro s k hr hs' hk
    have h1 := drop_nil hr
    have : s = [] := by rw [← hs', List.drop_eq_nil_of_le (by omega)]
    subst this
    refine s18_0_run _ _ _ ?_ (.refl _)
    simp (disch := omega) only [s18_0, ↓cond_ite, ↓gd_ite, decide_eq_true_eq, Bool.not_eq_true', gd_true, cond_true, cond_false, if_pos, if_neg, if_true, if_false, Bool.false_eq_true, Bool.true_eq_false, toNat_cast, W_i64, List.length_map, List.length_append, List.length_cons, List.length_nil, ↓kB_mk, ↓kI_mk, ↓kS_mk, ↓kL_mk, ↓kA_mk, ↓kT_mk, ↓kF_mk, ↓unc_mk, ↓unn_mk, ↓opt_mk, Bool.not_true, Bool.not_false, Bool.and_true, Bool.true_and, Bool.and_false, Bool.false_and, beq_self_eq_true, Bool.true_beq, Bool.false_beq, Int.natCast_add, Int.natCast_one, Int.cast_ofNat_Int, List.map_append, List.map_cons, List.map_nil, List.append_assoc, List.nil_append, ↓d46_eP, wfl_eP, flat_eP, eP_agg', take_cap, take_self, take_map, wfl_nil, pr_eta, List.append_nil, ↓d30_eE, ↓d28_eE, wfl_eE, ↓d54_mk, ↓d47_mk, ↓d31_mk, ↓d56_eS, eE_agg, ev_eta, kI_eI]
  | cons x r ih =>
    intro s k hr hs' hk
    obtain ⟨h1, h2, h3⟩ := drop_cons hr
    cases s with
    | nil => have := drop_nil hs'; omega
    | cons y s =>
      obtain ⟨h4, h5, h6⟩ := drop_cons hs'
      by_cases hx : x = y
      · subst hx
        refine s18_0_run _ _ _ (o := .head 0 (T18_0 (eIs a) (eIs b) ((k + 1 : Nat) : Int))) ?_ ?_
        · simp (disch := omega) only [s18_0, idxK_map h1, idxK_map h4, bne_self_eq_false, ↓cond_ite, ↓gd_ite, decide_eq_true_eq, Bool.not_eq_true', gd_true, cond_true, cond_false, if_pos, if_neg, if_true, if_false, Bool.false_eq_true, Bool.true_eq_false, toNat_cast, W_i64, List.length_map, List.length_append, List.length_cons, List.length_nil, ↓kB_mk, ↓kI_mk, ↓kS_mk, ↓kL_mk, ↓kA_mk, ↓kT_mk, ↓kF_mk, ↓unc_mk, ↓unn_mk, ↓opt_mk, Bool.not_true, Bool.not_false, Bool.and_true, Bool.true_and, Bool.and_false, Bool.false_and, beq_self_eq_true, Bool.true_beq, Bool.false_beq, Int.natCast_add, Int.natCast_one, Int.cast_ofNat_Int, List.map_append, List.map_cons, List.map_nil, List.append_assoc, List.nil_append, ↓d46_eP, wfl_eP, flat_eP, eP_agg', take_cap, take_self, take_map, wfl_nil, pr_eta, List.append_nil, ↓d30_eE, ↓d28_eE, wfl_eE, ↓d54_mk, ↓d47_mk, ↓d31_mk, ↓d56_eS, eE_agg, ev_eta, kI_eI]
        · have := ih s (k + 1) h2 h5 (by omega)
          simpa [List.cons_beq_cons] using this
      · refine s18_0_run _ _ _ ?_ (.refl _)
        have e : ((x : Int) != (y : Int)) = true := by simp; omega
        have e2 : (x == y) = false := by simpa using hx
        simp (disch := omega) only [s18_0, idxK_map h1, idxK_map h4, e, e2, List.cons_beq_cons, ↓cond_ite, ↓gd_ite, decide_eq_true_eq, Bool.not_eq_true', gd_true, cond_true, cond_false, if_pos, if_neg, if_true, if_false, Bool.false_eq_true, Bool.true_eq_false, toNat_cast, W_i64, List.length_map, List.length_append, List.length_cons, List.length_nil, ↓kB_mk, ↓kI_mk, ↓kS_mk, ↓kL_mk, ↓kA_mk, ↓kT_mk, ↓kF_mk, ↓unc_mk, ↓unn_mk, ↓opt_mk, Bool.not_true, Bool.not_false, Bool.and_true, Bool.true_and, Bool.and_false, Bool.false_and, beq_self_eq_true, Bool.true_beq, Bool.false_beq, Int.natCast_add, Int.natCast_one, Int.cast_ofNat_Int, List.map_append, List.map_cons, List.map_nil, List.append_assoc, List.nil_append, ↓d46_eP, wfl_eP, flat_eP, eP_agg', take_cap, take_self, take_map, wfl_nil, pr_eta, List.append_nil, ↓d30_eE, ↓d28_eE, wfl_eE, ↓d54_mk, ↓d47_mk, ↓d31_mk, ↓d56_eS, eE_agg, ev_eta, kI_eI]
theorem ints (a b : List Nat) (hl : a.length ≤ 1000000) : pcW hcfg 18 [.sl (eIs a), .sl (eIs b)] = some (.bool (a == b)) := by
  by_cases h : a.length = b.length
  · refine e18_run _ _ (o := .head 0 (T18_0 (eIs a) (eIs b) ((0 : Nat) : Int))) ?_ (ints_loop a b h hl a b 0 rfl rfl (Nat.zero_le _))
    simp (disch := omega) only [e18, h, bne_self_eq_false, ↓cond_ite, ↓gd_ite, decide_eq_true_eq, Bool.not_eq_true', gd_true, cond_true, cond_false, if_pos, if_neg, if_true, if_false, Bool.false_eq_true, Bool.true_eq_false, toNat_cast, W_i64, List.length_map, List.length_append, List.length_cons, List.length_nil, ↓kB_mk, ↓kI_mk, ↓kS_mk, ↓kL_mk, ↓kA_mk, ↓kT_mk, ↓kF_mk, ↓unc_mk, ↓unn_mk, ↓opt_mk, Bool.not_true, Bool.not_false, Bool.and_true, Bool.true_and, Bool.and_false, Bool.false_and, beq_self_eq_true, Bool.true_beq, Bool.false_beq, Int.natCast_add, Int.natCast_one, Int.cast_ofNat_Int, List.map_append, List.map_cons, List.map_nil, List.append_assoc, List.nil_append, ↓d46_eP, wfl_eP, flat_eP, eP_agg', take_cap, take_self, take_map, wfl_nil, pr_eta, List.append_nil, ↓d30_eE, ↓d28_eE, wfl_eE, ↓d54_mk, ↓d47_mk, ↓d31_mk, ↓d56_eS, eE_agg, ev_eta, kI_eI]
  · refine e18_run _ _ ?_ (.refl _)
    have e : (a == b) = false := by simpa using fun e => h (by rw [e])
    have e2 : ((a.length : Int) != (b.length : Int)) = true := by simp; omega
    simp (disch := omega) only [e18, e, e2, ↓cond_ite, ↓gd_ite, decide_eq_true_eq, Bool.not_eq_true', gd_true, cond_true, cond_false, if_pos, if_neg, if_true, if_false, Bool.false_eq_true, Bool.true_eq_false, toNat_cast, W_i64, List.length_map, List.length_append, List.length_cons, List.length_nil, ↓kB_mk, ↓kI_mk, ↓kS_mk, ↓kL_mk, ↓kA_mk, ↓kT_mk, ↓kF_mk, ↓unc_mk, ↓unn_mk, ↓opt_mk, Bool.not_true, Bool.not_false, Bool.and_true, Bool.true_and, Bool.and_false, Bool.false_and, beq_self_eq_true, Bool.true_beq, Bool.false_beq, Int.natCast_add, Int.natCast_one, Int.cast_ofNat_Int, List.map_append, List.map_cons, List.map_nil, List.append_assoc, List.nil_append, ↓d46_eP, wfl_eP, flat_eP, eP_agg', take_cap, take_self, take_map, wfl_nil, pr_eta, List.append_nil, ↓d30_eE, ↓d28_eE, wfl_eE, ↓d54_mk, ↓d47_mk, ↓d31_mk, ↓d56_eS, eE_agg, ev_eta, kI_eI]

/-! ### Do -/

def valOf (m : List Pr) (k : Bs) : Bs := match m[lb m k]? with | some p => if p.1 == k then p.2 else [] | none => []
def doE (m : List Pr) (e : Ev) : List Pr × Bool :=
  if e.kind = 2 then (m, (e.ok == has m e.key) && (e.value == valOf m e.key))
  else if e.kind = 3 then (layR m (e.key, e.value), !(e.ok == has m e.key))
  else if e.kind = 4 then (m.filter fun q => !(q.1 == e.key), e.ok == has m e.key)
  else if e.kind = 5 then (m, (m.drop (lb m e.key)).take e.n.toNat == e.pairs)
  else (m, true)

theorem valOf_has {m : List Pr} {k : Bs} {p : Pr} (h : has m k = true) (hp : m[lb m k]? = some p) : valOf m k = p.2 := by
  unfold has at h
  rw [hp] at h
  unfold valOf
  rw [hp]
  simp only at h ⊢
  rw [if_pos h]
theorem valOf_not {m : List Pr} {k : Bs} (h : has m k = false) : valOf m k = [] := by
  unfold has at h
  unfold valOf
  split
  · rename_i p hp
    rw [hp] at h
    simp only at h
    rw [if_neg (by rw [h]; simp)]
  · rfl

theorem doS (m : List Pr) (hs : Sorted m) (e : Ev) (hl : m.length ≤ 1000000) : pcW hcfg 11 [.sl (ePs m), eE e] = some (.tup [.sl (ePs (doE m e).1), .bool (doE m e).2]) := by
  refine e11_done _ _ _ _ _ _ _ _ ?_
  have hle := lb_le m e.key
  have hf := find m hs e.key hl
  unfold doE
  by_cases h2 : e.kind = 2
  · have q2 : (e.kind == 2) = true := by simpa using h2
    rw [if_pos h2]
    cases hx : has m e.key with
    | true =>
      obtain ⟨p, h1, h3, h4⟩ := has_lt hx
      have hv := valOf_has hx h1
      cases ho : e.ok <;> simp (disch := omega) only [e11, ↓pcK_of hf, q2, hx, ↓idxK_map h1, ↓pcK_of (clone m hl), hv, ho, ↓cond_ite, ↓gd_ite, decide_eq_true_eq, Bool.not_eq_true', gd_true, cond_true, cond_false, if_pos, if_neg, if_true, if_false, Bool.false_eq_true, Bool.true_eq_false, toNat_cast, W_i64, List.length_map, List.length_append, List.length_cons, List.length_nil, ↓kB_mk, ↓kI_mk, ↓kS_mk, ↓kL_mk, ↓kA_mk, ↓kT_mk, ↓kF_mk, ↓unc_mk, ↓unn_mk, ↓opt_mk, Bool.not_true, Bool.not_false, Bool.and_true, Bool.true_and, Bool.and_false, Bool.false_and, beq_self_eq_true, Bool.true_beq, Bool.false_beq, Int.natCast_add, Int.natCast_one, Int.cast_ofNat_Int, List.map_append, List.map_cons, List.map_nil, List.append_assoc, List.nil_append, ↓d46_eP, wfl_eP, flat_eP, eP_agg', take_cap, take_self, take_map, wfl_nil, pr_eta, List.append_nil, ↓d30_eE, ↓d28_eE, wfl_eE, ↓d54_mk, ↓d47_mk, ↓d31_mk, ↓d56_eS, eE_agg, ev_eta, kI_eI]
    | false =>
      have hv := valOf_not hx
      cases ho : e.ok <;> simp (disch := omega) only [e11, ↓pcK_of hf, q2, hx, ↓pcK_of (clone m hl), hv, ho, ↓cond_ite, ↓gd_ite, decide_eq_true_eq, Bool.not_eq_true', gd_true, cond_true, cond_false, if_pos, if_neg, if_true, if_false, Bool.false_eq_true, Bool.true_eq_false, toNat_cast, W_i64, List.length_map, List.length_append, List.length_cons, List.length_nil, ↓kB_mk, ↓kI_mk, ↓kS_mk, ↓kL_mk, ↓kA_mk, ↓kT_mk, ↓kF_mk, ↓unc_mk, ↓unn_mk, ↓opt_mk, Bool.not_true, Bool.not_false, Bool.and_true, Bool.true_and, Bool.and_false, Bool.false_and, beq_self_eq_true, Bool.true_beq, Bool.false_beq, Int.natCast_add, Int.natCast_one, Int.cast_ofNat_Int, List.map_append, List.map_cons, List.map_nil, List.append_assoc, List.nil_append, ↓d46_eP, wfl_eP, flat_eP, eP_agg', take_cap, take_self, take_map, wfl_nil, pr_eta, List.append_nil, ↓d30_eE, ↓d28_eE, wfl_eE, ↓d54_mk, ↓d47_mk, ↓d31_mk, ↓d56_eS, eE_agg, ev_eta, kI_eI]
  have q2 : (e.kind == 2) = false := by simpa using h2
  by_cases h3 : e.kind = 3
  · have q3 : (e.kind == 3) = true := by simpa using h3
    rw [if_neg h2, if_pos h3]
    simp (disch := omega) only [e11, ↓pcK_of hf, q2, q3, ↓pcK_of (lay m hs (e.key, e.value) hl), ↓cond_ite, ↓gd_ite, decide_eq_true_eq, Bool.not_eq_true', gd_true, cond_true, cond_false, if_pos, if_neg, if_true, if_false, Bool.false_eq_true, Bool.true_eq_false, toNat_cast, W_i64, List.length_map, List.length_append, List.length_cons, List.length_nil, ↓kB_mk, ↓kI_mk, ↓kS_mk, ↓kL_mk, ↓kA_mk, ↓kT_mk, ↓kF_mk, ↓unc_mk, ↓unn_mk, ↓opt_mk, Bool.not_true, Bool.not_false, Bool.and_true, Bool.true_and, Bool.and_false, Bool.false_and, beq_self_eq_true, Bool.true_beq, Bool.false_beq, Int.natCast_add, Int.natCast_one, Int.cast_ofNat_Int, List.map_append, List.map_cons, List.map_nil, List.append_assoc, List.nil_append, ↓d46_eP, wfl_eP, flat_eP, eP_agg', take_cap, take_self, take_map, wfl_nil, pr_eta, List.append_nil, ↓d30_eE, ↓d28_eE, wfl_eE, ↓d54_mk, ↓d47_mk, ↓d31_mk, ↓d56_eS, eE_agg, ev_eta, kI_eI]
  have q3 : (e.kind == 3) = false := by simpa using h3
  by_cases h4 : e.kind = 4
  · have q4 : (e.kind == 4) = true := by simpa using h4
    rw [if_neg h2, if_neg h3, if_pos h4]
    simp (disch := omega) only [e11, ↓pcK_of hf, q2, q3, q4, ↓pcK_of (cut m hs e.key hl), ↓cond_ite, ↓gd_ite, decide_eq_true_eq, Bool.not_eq_true', gd_true, cond_true, cond_false, if_pos, if_neg, if_true, if_false, Bool.false_eq_true, Bool.true_eq_false, toNat_cast, W_i64, List.length_map, List.length_append, List.length_cons, List.length_nil, ↓kB_mk, ↓kI_mk, ↓kS_mk, ↓kL_mk, ↓kA_mk, ↓kT_mk, ↓kF_mk, ↓unc_mk, ↓unn_mk, ↓opt_mk, Bool.not_true, Bool.not_false, Bool.and_true, Bool.true_and, Bool.and_false, Bool.false_and, beq_self_eq_true, Bool.true_beq, Bool.false_beq, Int.natCast_add, Int.natCast_one, Int.cast_ofNat_Int, List.map_append, List.map_cons, List.map_nil, List.append_assoc, List.nil_append, ↓d46_eP, wfl_eP, flat_eP, eP_agg', take_cap, take_self, take_map, wfl_nil, pr_eta, List.append_nil, ↓d30_eE, ↓d28_eE, wfl_eE, ↓d54_mk, ↓d47_mk, ↓d31_mk, ↓d56_eS, eE_agg, ev_eta, kI_eI]
  have q4 : (e.kind == 4) = false := by simpa using h4
  by_cases h5 : e.kind = 5
  · have q5 : (e.kind == 5) = true := by simpa using h5
    obtain ⟨N, hN⟩ : ∃ N, N = (if 0 < (if (m.length : Int) - (lb m e.key : Int) < e.n then (m.length : Int) - (lb m e.key : Int) else e.n) then (if (m.length : Int) - (lb m e.key : Int) < e.n then (m.length : Int) - (lb m e.key : Int) else e.n) else 0) := ⟨_, rfl⟩
    have k1 : 0 ≤ N ∧ (lb m e.key : Int) + N ≤ m.length := by omega
    have k3 : (m.drop (lb m e.key)).take e.n.toNat = (m.drop (lb m e.key)).take N.toNat := by
      rw [List.take_eq_take_iff]
      simp only [List.length_drop]
      omega
    rw [if_neg h2, if_neg h3, if_neg h4, if_pos h5, k3]
    have he := equal ((m.drop (lb m e.key)).take N.toNat) e.pairs (by simp; omega)
    have tn : ((lb m e.key : Int) + N).toNat = lb m e.key + N.toNat := by omega
    simp only [ePs, List.map_take, List.map_drop] at he
    simp (disch := omega) only [e11, ↓pcK_of hf, ↓d47_mk, q2, q3, q4, q5, ↓pcK_of (clone m hl), tn, List.drop_take, Nat.add_sub_cancel_left, ← hN, pcK_of he, ↓cond_ite, ↓gd_ite, decide_eq_true_eq, Bool.not_eq_true', gd_true, cond_true, cond_false, if_pos, if_neg, if_true, if_false, Bool.false_eq_true, Bool.true_eq_false, toNat_cast, W_i64, List.length_map, List.length_append, List.length_cons, List.length_nil, ↓kB_mk, ↓kI_mk, ↓kS_mk, ↓kL_mk, ↓kA_mk, ↓kT_mk, ↓kF_mk, ↓unc_mk, ↓unn_mk, ↓opt_mk, Bool.not_true, Bool.not_false, Bool.and_true, Bool.true_and, Bool.and_false, Bool.false_and, beq_self_eq_true, Bool.true_beq, Bool.false_beq, Int.natCast_add, Int.natCast_one, Int.cast_ofNat_Int, List.map_append, List.map_cons, List.map_nil, List.append_assoc, List.nil_append, ↓d46_eP, wfl_eP, flat_eP, eP_agg', take_cap, take_self, take_map, wfl_nil, pr_eta, List.append_nil, ↓d30_eE, ↓d28_eE, wfl_eE, ↓d54_mk, ↓d47_mk, ↓d31_mk, ↓d56_eS, eE_agg, ev_eta, kI_eI]
  · have q5 : (e.kind == 5) = false := by simpa using h5
    rw [if_neg h2, if_neg h3, if_neg h4, if_neg h5]
    simp (disch := omega) only [e11, ↓pcK_of hf, q2, q3, q4, q5, ↓pcK_of (clone m hl), ↓cond_ite, ↓gd_ite, decide_eq_true_eq, Bool.not_eq_true', gd_true, cond_true, cond_false, if_pos, if_neg, if_true, if_false, Bool.false_eq_true, Bool.true_eq_false, toNat_cast, W_i64, List.length_map, List.length_append, List.length_cons, List.length_nil, ↓kB_mk, ↓kI_mk, ↓kS_mk, ↓kL_mk, ↓kA_mk, ↓kT_mk, ↓kF_mk, ↓unc_mk, ↓unn_mk, ↓opt_mk, Bool.not_true, Bool.not_false, Bool.and_true, Bool.true_and, Bool.and_false, Bool.false_and, beq_self_eq_true, Bool.true_beq, Bool.false_beq, Int.natCast_add, Int.natCast_one, Int.cast_ofNat_Int, List.map_append, List.map_cons, List.map_nil, List.append_assoc, List.nil_append, ↓d46_eP, wfl_eP, flat_eP, eP_agg', take_cap, take_self, take_map, wfl_nil, pr_eta, List.append_nil, ↓d30_eE, ↓d28_eE, wfl_eE, ↓d54_mk, ↓d47_mk, ↓d31_mk, ↓d56_eS, eE_agg, ev_eta, kI_eI]

end Go.Proofs.Ythojkngbpcjicaa
