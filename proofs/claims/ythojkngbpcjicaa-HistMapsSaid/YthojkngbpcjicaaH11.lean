/-
  HistOwn: the plain law. What is not committed changes nothing.
-/
import Derived.Test.YthojkngbpcjicaaH10
namespace Go.Proofs.Ythojkngbpcjicaa
open Go Go.Lite
set_option linter.unusedSimpArgs false
set_option linter.unusedVariables false

/-- will the open transaction t be committed? -/
def wc (t : Int) : List Ev → Bool
  | [] => false
  | e :: r => if e.txn = t then (if e.kind = 6 then true else if e.kind = 7 then false else wc t r) else wc t r
def keepB (e : Ev) (r : List Ev) : Bool := if e.kind = 6 then true else if e.kind = 7 then false else wc e.txn r
def keepF : List Ev → List Ev
  | [] => []
  | e :: r => if keepB e r then e :: keepF r else keepF r

/-- the events of t's last transaction, up to k -/
def qF (l : List Ev) (t : Int) (k : Nat) : List Ev := match begun l t k with
  | some a => ((l.take k).drop a).filter fun e => e.txn == t
  | none => []
def evs (l : List Ev) (x : Nat × Nat) : List Ev := (rangeOf l x).filter fun e => e.txn == txOf l x.2
def stepE (s : List Pr × Bool) (e : Ev) : List Pr × Bool := ((doE s.1 e).1, s.2 && (doE s.1 e).2)

theorem fold_run (t : Int) : ∀ (l : List Ev) (s : List Pr × Bool), l.foldl (runE t) s = (l.filter fun e => e.txn == t).foldl stepE s := by
  intro l
  induction l with
  | nil => intro s; rfl
  | cons e l ih =>
    intro s
    rw [List.foldl_cons, ih]
    by_cases h : e.txn = t
    · rw [List.filter_cons_of_pos (by simpa using h), List.foldl_cons]
      unfold runE stepE
      rw [if_pos h]
    · rw [List.filter_cons_of_neg (by simpa using h)]
      unfold runE
      rw [if_neg h]
theorem serL_evs (l : List Ev) (m : List Pr) : serL l m = ((coms l 0 l).map (evs l)).foldl (fun s q => q.foldl stepE s) (m, true) := by
  unfold serL
  rw [List.foldl_map]
  congr 1
  funext s x
  exact fold_run _ _ _

theorem take_succ' {l : List Ev} {k : Nat} {e : Ev} (h : l[k]? = some e) : l.take (k + 1) = l.take k ++ [e] := by rw [List.take_add_one, h]; rfl
theorem len_take {l : List Ev} {k : Nat} {e : Ev} (h : l[k]? = some e) : (l.take k).length = k := by
  have := (List.getElem?_eq_some_iff.1 h).1
  rw [List.length_take]; omega

theorem q_beg {l : List Ev} {k : Nat} {e : Ev} (h : l[k]? = some e) (hk : e.kind = 1) : qF l e.txn (k + 1) = [e] := by
  unfold qF
  rw [begun_succ h, if_pos ⟨hk, rfl⟩, take_succ' h]
  simp only
  rw [List.drop_append_of_le_length (by rw [len_take h]; exact Nat.le_refl _), List.drop_of_length_le (by rw [len_take h]; exact Nat.le_refl _)]
  simp
theorem q_mid {l : List Ev} {k a : Nat} {e : Ev} (h : l[k]? = some e) (hk : e.kind ≠ 1) (hb : begun l e.txn k = some a) : qF l e.txn (k + 1) = qF l e.txn k ++ [e] := by
  have hlt := (begun_lt hb).1
  unfold qF
  rw [begun_succ h, if_neg (fun q => hk q.1), take_succ' h, hb]
  simp only
  rw [List.drop_append_of_le_length (by rw [len_take h]; omega), List.filter_append]
  simp
theorem q_other {l : List Ev} {k : Nat} {e : Ev} (h : l[k]? = some e) {t : Int} (ht : e.txn ≠ t) : qF l t (k + 1) = qF l t k := by
  unfold qF
  rw [begun_succ h, if_neg (fun q => ht q.2), take_succ' h]
  cases hb : begun l t k with
  | none => rfl
  | some a =>
    have hlt := (begun_lt hb).1
    simp only
    rw [List.drop_append_of_le_length (by rw [len_take h]; omega), List.filter_append]
    simp [ht]
theorem evs_com {l : List Ev} {k a : Nat} {e : Ev} (h : l[k]? = some e) (hb : begun l e.txn (k + 1) = some a) : evs l (a, k) = qF l e.txn (k + 1) := by
  unfold evs qF rangeOf txOf
  simp only [h, hb]

/-- the two runs, side by side -/
structure Two (l L : List Ev) (k k2 : Nat) (r : List Ev) : Prop where
  go : ∀ t, closedAt l t k = false → wc t r = true → closedAt L t k2 = false ∧ qF l t k = qF L t k2 ∧ (∃ a, begun l t k = some a) ∧ ∃ a, begun L t k2 = some a
  no : ∀ t, (closedAt l t k = true ∨ wc t r = false) → closedAt L t k2 = true

theorem wc_other {e : Ev} {r : List Ev} {t : Int} (h : e.txn ≠ t) : wc t (e :: r) = wc t r := by conv => lhs; unfold wc; rw [if_neg h]
theorem wc_mid {e : Ev} {r : List Ev} (h6 : e.kind ≠ 6) (h7 : e.kind ≠ 7) : wc e.txn (e :: r) = wc e.txn r := by conv => lhs; unfold wc; rw [if_pos rfl, if_neg h6, if_neg h7]

theorem two (l L : List Ev) : ∀ (r : List Ev) (k k2 : Nat), l.drop k = r → L.drop k2 = keepF r → rightF l k r = true → Two l L k k2 r →
    rightF L k2 (keepF r) = true ∧ (coms l k r).map (evs l) = (coms L k2 (keepF r)).map (evs L) := by
  intro r
  induction r with
  | nil => intro k k2 _ _ _ _; exact ⟨rfl, rfl⟩
  | cons e r ih =>
    intro k k2 hr hR hok T
    obtain ⟨h1, h2, h3⟩ := drop_cons hr
    unfold rightF at hok
    simp only [Bool.and_eq_true] at hok
    obtain ⟨ok, hok⟩ := hok
    unfold okAt at ok
    simp only [Bool.and_eq_true, decide_eq_true_eq, beq_iff_eq] at ok
    obtain ⟨⟨o1, o7⟩, oc⟩ := ok
    have hc := closed_succ h1
    have hb := begun_succ h1
    -- others stay
    have other : ∀ {k2' : Nat}, (∀ t, e.txn ≠ t → closedAt L t k2' = closedAt L t k2 ∧ begun L t k2' = begun L t k2 ∧ qF L t k2' = qF L t k2) →
        (closedAt l e.txn (k + 1) = false → wc e.txn r = true → closedAt L e.txn k2' = false ∧ qF l e.txn (k + 1) = qF L e.txn k2' ∧ (∃ a, begun l e.txn (k + 1) = some a) ∧ ∃ a, begun L e.txn k2' = some a) →
        ((closedAt l e.txn (k + 1) = true ∨ wc e.txn r = false) → closedAt L e.txn k2' = true) → Two l L (k + 1) k2' r := by
      intro k2' ho hg hn
      refine ⟨fun t q1 q2 => ?_, fun t q => ?_⟩
      · by_cases ht : e.txn = t
        · subst ht; exact hg q1 q2
        · obtain ⟨b1, b2, b3⟩ := ho t ht
          rw [hc, if_neg ht] at q1
          rw [b1, b2, b3, q_other h1 ht, hb, if_neg (fun q => ht q.2)]
          exact T.go t q1 (by rw [wc_other ht]; exact q2)
      · by_cases ht : e.txn = t
        · subst ht; exact hn q
        · obtain ⟨b1, _, _⟩ := ho t ht
          rw [b1]
          rw [hc, if_neg ht] at q
          exact T.no t (by rw [wc_other ht]; exact q)
    by_cases hkeep : keepB e r = true
    · -- kept
      have hkf : keepF (e :: r) = e :: keepF r := by
        conv => lhs; unfold keepF
        rw [if_pos hkeep]
      rw [hkf] at hR ⊢
      obtain ⟨g1, g2, g3⟩ := drop_cons hR
      have hc2 := closed_succ g1
      have hb2 := begun_succ g1
      have hoth : ∀ t, e.txn ≠ t → closedAt L t (k2 + 1) = closedAt L t k2 ∧ begun L t (k2 + 1) = begun L t k2 ∧ qF L t (k2 + 1) = qF L t k2 := fun t ht => ⟨by rw [hc2, if_neg ht], by rw [hb2, if_neg (fun q => ht q.2)], q_other g1 ht⟩
      have h7 : e.kind ≠ 7 := by
        intro h; unfold keepB at hkeep; rw [h] at hkeep; simp at hkeep
      by_cases k1 : e.kind = 1
      · have hcl : closedAt l e.txn k = true := by rw [oc]; simpa using k1
        have hcl2 := T.no e.txn (.inl hcl)
        have hw : wc e.txn r = true := by
          unfold keepB at hkeep; rw [if_neg (by omega), if_neg (by omega)] at hkeep; exact hkeep
        obtain ⟨r1, r2⟩ := ih (k + 1) (k2 + 1) h2 g2 hok (other hoth
          (fun _ _ => ⟨by rw [hc2, if_pos rfl, decide_eq_false (by omega)], by rw [q_beg h1 k1, q_beg g1 k1], ⟨k, by rw [hb, if_pos ⟨k1, rfl⟩]⟩, k2, by rw [hb2, if_pos ⟨k1, rfl⟩]⟩)
          (fun q => by
            rcases q with q | q
            · rw [hc, if_pos rfl, decide_eq_false (by omega)] at q; cases q
            · rw [hw] at q; cases q))
        unfold rightF coms
        rw [if_neg (by omega), if_neg (by omega)]
        refine ⟨?_, r2⟩
        rw [r1, Bool.and_true]
        unfold okAt
        rw [decide_eq_true o1, decide_eq_true o7, hcl2, k1]
        rfl
      · have hcl : closedAt l e.txn k = false := by rw [oc]; simpa using k1
        have hw : wc e.txn (e :: r) = true := by
          by_cases k6 : e.kind = 6
          · unfold wc; rw [if_pos rfl, if_pos k6]
          · rw [wc_mid k6 h7]
            unfold keepB at hkeep; rw [if_neg k6, if_neg h7] at hkeep; exact hkeep
        obtain ⟨u1, u2, ⟨a, u3⟩, b, u4⟩ := T.go e.txn hcl hw
        have hokL : okAt L k2 e = true := by
          unfold okAt
          rw [decide_eq_true o1, decide_eq_true o7, u1]
          simpa using k1
        by_cases k6 : e.kind = 6
        · obtain ⟨r1, r2⟩ := ih (k + 1) (k2 + 1) h2 g2 hok (other hoth
            (fun q _ => by rw [hc, if_pos rfl, decide_eq_true (by omega)] at q; cases q)
            (fun _ => by rw [hc2, if_pos rfl, decide_eq_true (by omega)]))
          unfold rightF coms
          rw [if_pos k6, if_pos k6, r1, hokL]
          refine ⟨rfl, ?_⟩
          have e1 : begun l e.txn (k + 1) = some a := by rw [hb, if_neg (fun q => k1 q.1), u3]
          have e2 : begun L e.txn (k2 + 1) = some b := by rw [hb2, if_neg (fun q => k1 q.1), u4]
          rw [List.map_cons, List.map_cons, r2, e1, e2]
          simp only [Option.getD_some]
          rw [evs_com h1 e1, evs_com g1 e2, q_mid h1 k1 u3, q_mid g1 k1 u4, u2]
        · have hw' : wc e.txn r = true := by rw [wc_mid k6 h7] at hw; exact hw
          obtain ⟨r1, r2⟩ := ih (k + 1) (k2 + 1) h2 g2 hok (other hoth
            (fun _ _ => ⟨by rw [hc2, if_pos rfl, decide_eq_false (by omega)], by rw [q_mid h1 k1 u3, q_mid g1 k1 u4, u2], ⟨a, by rw [hb, if_neg (fun q => k1 q.1), u3]⟩, b, by rw [hb2, if_neg (fun q => k1 q.1), u4]⟩)
            (fun q => by
              rcases q with q | q
              · rw [hc, if_pos rfl, decide_eq_false (by omega)] at q; cases q
              · rw [hw'] at q; cases q))
          unfold rightF coms
          rw [if_neg k6, if_neg k6, r1, hokL]
          exact ⟨rfl, r2⟩
    · -- left out
      have hkeep : keepB e r = false := by simpa using hkeep
      have hkf : keepF (e :: r) = keepF r := by
        conv => lhs; unfold keepF
        rw [if_neg (by rw [hkeep]; simp)]
      rw [hkf] at hR ⊢
      have h6 : e.kind ≠ 6 := by
        intro h; unfold keepB at hkeep; rw [if_pos h] at hkeep; cases hkeep
      have hno : closedAt L e.txn k2 = true := by
        by_cases k1 : e.kind = 1
        · exact T.no e.txn (.inl (by rw [oc]; simpa using k1))
        · refine T.no e.txn (.inr ?_)
          by_cases k7 : e.kind = 7
          · unfold wc; rw [if_pos rfl, if_neg h6, if_pos k7]
          · rw [wc_mid h6 k7]
            unfold keepB at hkeep; rw [if_neg h6, if_neg k7] at hkeep; exact hkeep
      obtain ⟨r1, r2⟩ := ih (k + 1) k2 h2 hR hok (other (fun t _ => ⟨rfl, rfl, rfl⟩)
        (fun q1 q2 => by
          by_cases k7 : e.kind = 7
          · rw [hc, if_pos rfl, decide_eq_true (by omega)] at q1; cases q1
          · unfold keepB at hkeep; rw [if_neg h6, if_neg k7, q2] at hkeep; cases hkeep)
        (fun _ => hno))
      refine ⟨r1, ?_⟩
      conv => lhs; unfold coms
      rw [if_neg h6]
      exact r2

theorem keep_len : ∀ l : List Ev, (keepF l).length ≤ l.length := by
  intro l
  induction l with
  | nil => exact Nat.le_refl _
  | cons e l ih =>
    unfold keepF
    split
    · simp only [List.length_cons]; omega
    · simp only [List.length_cons]; omega

theorem keep_same {l : List Ev} (h : rightF l 0 l = true) (m : List Pr) : rightF (keepF l) 0 (keepF l) = true ∧ serR (keepF l) m = serR l m ∧ (comOf (keepF l)).length = (comOf l).length := by
  obtain ⟨r1, r2⟩ := two l (keepF l) l 0 0 rfl rfl h ⟨fun t q => (by cases q), fun t _ => rfl⟩
  refine ⟨r1, ?_, ?_⟩
  · unfold serR
    rw [if_pos r1, if_pos h, serL_evs, serL_evs, r2]
  · unfold comOf
    rw [span_eq, span_eq, if_pos r1, if_pos h]
    have := congrArg List.length r2
    simp only [List.length_map, Option.getD_some] at this ⊢
    exact this.symm
end Go.Proofs.Ythojkngbpcjicaa
