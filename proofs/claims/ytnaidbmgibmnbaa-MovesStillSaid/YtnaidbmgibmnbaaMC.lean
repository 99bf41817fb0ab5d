/-
  Rounds, counted: each step that brings a leaf home makes them one more.
-/
import Derived.Test.YtnaidbmgibmnbaaMA
namespace Go.Proofs.Ytnaidbmgibmnbaa
open Go Go.Lite

/-! ### a place, and where one comes from there -/

def it (σ : Nat → Nat) : Nat → Nat → Nat
  | 0, i => i
  | k + 1, i => σ (it σ k i)
theorem it_add (σ : Nat → Nat) : ∀ a b i, it σ (a + b) i = it σ a (it σ b i)
  | 0, b, i => by simp [it]
  | a + 1, b, i => by rw [Nat.succ_add, it, it_add σ a b i, it]
theorem it_succ (σ : Nat → Nat) (k i : Nat) : it σ (k + 1) i = it σ k (σ i) := it_add σ k 1 i
structure Pm (σ : Nat → Nat) (n : Nat) : Prop where
  lt : ∀ i, i < n → σ i < n
  inj : ∀ i j, i < n → j < n → σ i = σ j → i = j
theorem it_lt {σ : Nat → Nat} {n : Nat} (h : Pm σ n) : ∀ k {i : Nat}, i < n → it σ k i < n
  | 0, _, hi => hi
  | k + 1, _, hi => h.lt _ (it_lt h k hi)
theorem it_inj {σ : Nat → Nat} {n : Nat} (h : Pm σ n) : ∀ k {i j : Nat}, i < n → j < n → it σ k i = it σ k j → i = j
  | 0, _, _, _, _, e => e
  | k + 1, _, _, hi, hj, e => it_inj h k hi hj (h.inj _ _ (it_lt h k hi) (it_lt h k hj) e)
theorem php : ∀ (n : Nat) (f : Nat → Nat), (∀ k, k ≤ n → f k < n) → ∃ a b, a < b ∧ b ≤ n ∧ f a = f b
  | 0, f, hf => by have := hf 0 (Nat.le_refl _); omega
  | n + 1, f, hf => by
    by_cases hc : ∃ k, k ≤ n ∧ f k = f (n + 1)
    · obtain ⟨k, hk, e⟩ := hc
      exact ⟨k, n + 1, by omega, Nat.le_refl _, e⟩
    · have hc : ∀ k, k ≤ n → f k ≠ f (n + 1) := fun k hk e => hc ⟨k, hk, e⟩
      obtain ⟨a, b, h1, h2, h3⟩ := php n (fun k => if f k = n then f (n + 1) else f k) (fun k hk => by
        have a1 := hf k (by omega)
        have a2 := hf (n + 1) (Nat.le_refl _)
        have a3 := hc k hk
        show (if f k = n then f (n + 1) else f k) < n
        split <;> omega)
      refine ⟨a, b, h1, by omega, ?_⟩
      have c1 := hc a (by omega)
      have c2 := hc b h2
      have h3 : (if f a = n then f (n + 1) else f a) = (if f b = n then f (n + 1) else f b) := h3
      split at h3 <;> split at h3 <;> omega
theorem period {σ : Nat → Nat} {n : Nat} (h : Pm σ n) {i : Nat} (hi : i < n) : ∃ m, 0 < m ∧ it σ m i = i := by
  obtain ⟨a, b, h1, h2, h3⟩ := php n (fun k => it σ k i) (fun k _ => it_lt h k hi)
  have h3 : it σ a i = it σ b i := h3
  refine ⟨b - a, by omega, ?_⟩
  have e : it σ b i = it σ a (it σ (b - a) i) := by rw [← it_add]; congr 1; omega
  rw [e] at h3
  exact (it_inj h a hi (it_lt h _ hi) h3).symm
theorem period_mul {σ : Nat → Nat} {m i : Nat} (hm : it σ m i = i) : ∀ k, it σ (m * k) i = i
  | 0 => rfl
  | k + 1 => by rw [Nat.mul_succ, it_add, hm, period_mul hm k]
/-- and back -/
theorem reach_back {σ : Nat → Nat} {n : Nat} (h : Pm σ n) {i : Nat} (hi : i < n) (k : Nat) : ∃ q, it σ q (it σ k i) = i := by
  obtain ⟨m, hm, e⟩ := period h hi
  have hk : k ≤ m * k := Nat.le_mul_of_pos_left k hm
  refine ⟨m * k - k, ?_⟩
  rw [← it_add, Nat.sub_add_cancel hk]
  exact period_mul e k

/-! ### one round is seen -/

def Tr (seen : List Bool) (j : Nat) : Prop := seen[j]? = some true
theorem orbit_small {σ : Nat → Nat} {i t a : Nat} (ha : a < t) (e : it σ t i = it σ a i) : ∀ k, ∃ c, c < t ∧ it σ k i = it σ c i
  | 0 => ⟨0, by omega, rfl⟩
  | k + 1 => by
    obtain ⟨c, hc, ec⟩ := orbit_small ha e k
    by_cases h : c + 1 < t
    · exact ⟨c + 1, h, by simp only [it, ec]⟩
    · have : c + 1 = t := by omega
      exact ⟨a, ha, by rw [← e, ← this]; simp only [it, ec]⟩
theorem uns_set' : ∀ (l : List Bool) (i : Nat), l[i]? = some false → l.countP (fun y => !y) = (l.set i true).countP (fun y => !y) + 1
  | [], _, h => by simp at h
  | x :: l, 0, h => by simp at h; subst h; simp
  | x :: l, i + 1, h => by
    have := uns_set' l i (by simpa using h)
    simp only [List.set_cons_succ, List.countP_cons, this]
    omega
theorem mark_spec {σ : Nat → Nat} {n : Nat} (h : Pm σ n) (seen : List Bool) (hl : seen.length = n) (i : Nat) (hi : i < n) (hun : ∀ k, ¬ Tr seen (it σ k i)) : ∀ (m t : Nat) (s' : List Bool), s'.length = n →
    (∀ j, Tr s' j ↔ Tr seen j ∨ ∃ k, k < t ∧ j = it σ k i) → s'.countP (fun y => !y) ≤ m → ∀ j, Tr (mark σ m s' (it σ t i)) j ↔ Tr seen j ∨ ∃ k, j = it σ k i := by
  have base : ∀ (t : Nat) (s' : List Bool), (∀ j, Tr s' j ↔ Tr seen j ∨ ∃ k, k < t ∧ j = it σ k i) → Tr s' (it σ t i) → ∀ j, Tr s' j ↔ Tr seen j ∨ ∃ k, j = it σ k i := by
    intro t s' hs ht j
    rw [hs]
    rcases (hs _).1 ht with h1 | ⟨a, ha, e⟩
    · exact (hun t h1).elim
    · constructor
      · rintro (h1 | ⟨k, _, rfl⟩)
        · exact .inl h1
        · exact .inr ⟨k, rfl⟩
      · rintro (h1 | ⟨k, rfl⟩)
        · exact .inl h1
        · exact .inr (orbit_small ha e k)
  intro m
  induction m with
  | zero =>
    intro t s' hl' hs hm
    have hlt := it_lt h t hi
    have : Tr s' (it σ t i) := by
      rcases bools _ (rfl : s'[it σ t i]? = s'[it σ t i]?) (by omega) with h1 | h1
      · exact h1
      · have := uns_set' s' _ h1; omega
    exact base t s' hs this
  | succ m ih =>
    intro t s' hl' hs hm
    have hlt := it_lt h t hi
    rcases bools _ (rfl : s'[it σ t i]? = s'[it σ t i]?) (by omega) with h1 | h1
    · have e : mark σ (m + 1) s' (it σ t i) = s' := by simp only [mark, h1]; rfl
      rw [e]
      exact base t s' hs h1
    · have e : mark σ (m + 1) s' (it σ t i) = mark σ m (s'.set (it σ t i) true) (it σ (t + 1) i) := by simp only [mark, if_pos h1, it]
      rw [e]
      have hu := uns_set' s' _ h1
      refine ih (t + 1) _ (by simp [hl']) (fun j => ?_) (by omega)
      have e2 : Tr (s'.set (it σ t i) true) j ↔ Tr s' j ∨ j = it σ t i := by
        unfold Tr
        by_cases hj : it σ t i = j
        · subst hj
          rw [List.getElem?_set_self (by omega)]
          simp
        · rw [List.getElem?_set_ne hj]
          constructor
          · exact .inl
          · rintro (h2 | h2)
            · exact h2
            · exact (hj h2.symm).elim
      rw [e2, hs]
      constructor
      · rintro ((h2 | ⟨k, hk, e⟩) | h2)
        · exact .inl h2
        · exact .inr ⟨k, by omega, e⟩
        · exact .inr ⟨t, by omega, h2⟩
      · rintro (h2 | ⟨k, hk, ej⟩)
        · exact .inl (.inl h2)
        · by_cases hkt : k = t
          · rw [hkt] at ej; exact .inr ej
          · exact .inl (.inr ⟨k, by omega, ej⟩)

/-! ### rounds are counted by their least places -/

def Least (σ : Nat → Nat) (i : Nat) : Prop := ∀ k, i ≤ it σ k i
noncomputable def lb (p : Prop) : Bool := @decide p (Classical.propDecidable p)
theorem lb_iff {p : Prop} : lb p = true ↔ p := by unfold lb; simp
noncomputable def rounds (σ : Nat → Nat) (n : Nat) : Nat := (List.range n).countP fun j => lb (Least σ j)

theorem cgo_spec {σ : Nat → Nat} {n : Nat} (h : Pm σ n) : ∀ (d i : Nat) (seen : List Bool), i + d = n → seen.length = n → (∀ j, j < i → Tr seen j) → (∀ j, j < n → (Tr seen j ↔ Tr seen (σ j))) →
    cgo σ n d i seen = (List.range' i d).countP fun j => lb (Least σ j ∧ ¬ Tr seen j) := by
  intro d
  induction d with
  | zero => intro i seen _ _ _ _; rfl
  | succ d ih =>
    intro i seen hi hl hall hcl
    rw [List.range'_succ, List.countP_cons]
    have hin : i < n := by omega
    rcases bools _ (rfl : seen[i]? = seen[i]?) (by omega) with hb | hb
    · have e : cgo σ n (d + 1) i seen = cgo σ n d (i + 1) seen := by simp only [cgo, hb]; rfl
      have e2 : lb (Least σ i ∧ ¬ Tr seen i) = false := by
        rw [← Bool.not_eq_true, lb_iff]
        exact fun h => h.2 hb
      rw [e, e2, ih (i + 1) seen (by omega) hl (fun j hj => by
        by_cases e : j = i
        · subst e; exact hb
        · exact hall j (by omega)) hcl]
      simp
    · have hno : ¬ Tr seen i := by unfold Tr; rw [hb]; simp
      have hun : ∀ k, ¬ Tr seen (it σ k i) := by
        intro k
        induction k with
        | zero => exact hno
        | succ k ihk => exact fun h2 => ihk ((hcl _ (it_lt h k hin)).2 h2)
      have hmin : Least σ i := fun k => by
        rcases Nat.lt_or_ge (it σ k i) i with h1 | h1
        · exact (hun k (hall _ h1)).elim
        · exact h1
      have e : cgo σ n (d + 1) i seen = cgo σ n d (i + 1) (mark σ n seen i) + 1 := by simp only [cgo, hb, if_true]
      have e2 : lb (Least σ i ∧ ¬ Tr seen i) = true := lb_iff.2 ⟨hmin, hno⟩
      have sp := mark_spec h seen hl i hin hun n 0 seen hl (fun j => ⟨.inl, fun h => h.elim id fun ⟨k, hk, _⟩ => by omega⟩) (by rw [← hl]; exact List.countP_le_length)
      have sp : ∀ j, Tr (mark σ n seen i) j ↔ Tr seen j ∨ ∃ k, j = it σ k i := sp
      rw [e, e2, if_pos rfl, ih (i + 1) (mark σ n seen i) (by omega) (by rw [mark_len]; exact hl) (fun j hj => (sp j).2 (by
        by_cases e : j = i
        · subst e; exact .inr ⟨0, rfl⟩
        · exact .inl (hall j (by omega)))) (fun j hj => ?_)]
      · congr 1
        refine List.countP_congr fun j hj => ?_
        rw [lb_iff, lb_iff, sp]
        have hji : i < j := by have := List.mem_range'_1.1 hj; omega
        constructor
        · rintro ⟨h1, h2⟩; exact ⟨h1, fun h3 => h2 (.inl h3)⟩
        · rintro ⟨h1, h2⟩
          refine ⟨h1, fun h3 => ?_⟩
          rcases h3 with h3 | ⟨k, rfl⟩
          · exact h2 h3
          · obtain ⟨q, hq⟩ := reach_back h hin k
            have := h1 q
            omega
      · rw [sp, sp]
        constructor
        · rintro (h1 | ⟨k, rfl⟩)
          · exact .inl ((hcl j hj).1 h1)
          · exact .inr ⟨k + 1, rfl⟩
        · rintro (h1 | ⟨k, hk⟩)
          · exact .inl ((hcl j hj).2 h1)
          · right
            cases k with
            | succ k => exact ⟨k, h.inj _ _ hj (it_lt h k hin) hk⟩
            | zero =>
              obtain ⟨m, hm, em⟩ := period h hin
              obtain ⟨m', rfl⟩ : ∃ m', m = m' + 1 := ⟨m - 1, by omega⟩
              exact ⟨m', h.inj _ _ hj (it_lt h m' hin) (hk.trans em.symm)⟩
theorem cgo_rounds {σ : Nat → Nat} {n : Nat} (h : Pm σ n) : cgo σ n n 0 (List.replicate n false) = rounds σ n := by
  have ht : ∀ j, ¬ Tr (List.replicate n false) j := fun j hj => by
    unfold Tr at hj
    rw [List.getElem?_replicate] at hj
    split at hj <;> cases hj
  rw [cgo_spec h n 0 _ (by omega) (by simp) (fun j hj => by omega) (fun j hj => ⟨fun h1 => (ht _ h1).elim, fun h1 => (ht _ h1).elim⟩)]
  unfold rounds
  rw [List.range_eq_range']
  refine List.countP_congr fun j _ => ?_
  rw [lb_iff, lb_iff]
  exact ⟨fun h => h.1, fun h1 => ⟨h1, ht j⟩⟩

theorem least_of {p : Nat → Prop} : ∀ (n : Nat), p n → ∃ x, p x ∧ ∀ y, p y → x ≤ y := by
  intro n
  induction n using Nat.strongRecOn with
  | _ n ih =>
    intro hn
    by_cases hc : ∃ y, p y ∧ y < n
    · obtain ⟨y, hy, hlt⟩ := hc
      exact ih y hlt hy
    · exact ⟨n, hn, fun y hy => by
        rcases Nat.lt_or_ge y n with h1 | h1
        · exact (hc ⟨y, hy, h1⟩).elim
        · exact h1⟩
theorem count_one {p q : Nat → Prop} {m : Nat} (hm : ¬ p m) (hq : ∀ x, q x ↔ p x ∨ x = m) : ∀ (l : List Nat), l.Nodup → (m ∈ l → l.countP (fun j => lb (q j)) = l.countP (fun j => lb (p j)) + 1) ∧ (m ∉ l → l.countP (fun j => lb (q j)) = l.countP (fun j => lb (p j)))
  | [], _ => ⟨fun h => by simp at h, fun _ => rfl⟩
  | x :: l, hn => by
    rw [List.nodup_cons] at hn
    obtain ⟨i1, i2⟩ := count_one hm hq l hn.2
    simp only [List.countP_cons]
    by_cases e : x = m
    · subst e
      have e1 : lb (q x) = true := lb_iff.2 ((hq x).2 (.inr rfl))
      have e2 : lb (p x) = false := by rw [← Bool.not_eq_true, lb_iff]; exact hm
      rw [e1, e2, i2 hn.1]
      exact ⟨fun _ => by simp, fun h => (h (by simp)).elim⟩
    · have e1 : lb (q x) = lb (p x) := by
        rw [Bool.eq_iff_iff, lb_iff, lb_iff, hq]
        exact ⟨fun h => h.elim id fun h => (e h).elim, .inl⟩
      rw [e1]
      constructor
      · intro hmm
        have : m ∈ l := by simpa [Ne.symm e] using hmm
        rw [i1 this]; omega
      · intro hmm
        have : m ∉ l := fun h => hmm (by simp [h])
        rw [i2 this]

/-- one is let out of its round -/
theorem bypass {σ τ : Nat → Nat} {n i : Nat} (h : Pm σ n) (h' : Pm τ n) (hi : i < n) (hne : σ i ≠ i) (hlow : ∀ j, j < i → σ j = j) (ht : ∀ j, j < n → τ j = if j = i then i else if σ j = i then σ i else σ j) :
    rounds τ n = rounds σ n + 1 := by
  have hti : τ i = i := by rw [ht i hi, if_pos rfl]
  have tne : ∀ j, j < n → j ≠ i → τ j ≠ i := fun j hj hji => by
    rw [ht j hj, if_neg hji]
    split
    · exact hne
    · assumption
  have itne : ∀ k j, j < n → j ≠ i → it τ k j ≠ i := by
    intro k
    induction k with
    | zero => intro j _ h2; exact h2
    | succ k ih => intro j hj h2; exact tne _ (it_lt h' k hj) (ih j hj h2)
  have sub : ∀ k j, j < n → ∃ q, it τ k j = it σ q j ∨ j = i := by
    intro k
    induction k with
    | zero => intro j _; exact ⟨0, .inl rfl⟩
    | succ k ih =>
      intro j hj
      by_cases hji : j = i
      · exact ⟨0, .inr hji⟩
      obtain ⟨q, e | e⟩ := ih j hj
      · have hx := itne k j hj hji
        have hxl := it_lt h' k hj
        show ∃ q, τ (it τ k j) = it σ q j ∨ j = i
        rw [ht _ hxl, if_neg hx]
        split
        · rename_i e2
          exact ⟨q + 2, .inl (by simp only [it]; rw [← e, e2])⟩
        · exact ⟨q + 1, .inl (by simp only [it]; rw [← e])⟩
      · exact (hji e).elim
  have sup : ∀ k j, j < n → j ≠ i → it σ k j ≠ i → ∃ q, it σ k j = it τ q j := by
    intro k
    induction k using Nat.strongRecOn with
    | _ k ih =>
      intro j hj hji hki
      cases k with
      | zero => exact ⟨0, rfl⟩
      | succ k =>
        by_cases hk : it σ k j = i
        · cases k with
          | zero => exact (hji hk).elim
          | succ k =>
            have hy : it σ k j ≠ i := fun e => hne (by
              have : σ (it σ k j) = i := hk
              rw [e] at this; exact this)
            obtain ⟨q, e⟩ := ih k (by omega) j hj hji hy
            refine ⟨q + 1, ?_⟩
            show σ (it σ (k + 1) j) = τ (it τ q j)
            have hk' : σ (it σ k j) = i := hk
            rw [← e, ht _ (it_lt h k hj), if_neg hy, if_pos hk', hk]
        · obtain ⟨q, e⟩ := ih k (by omega) j hj hji hk
          refine ⟨q + 1, ?_⟩
          show σ (it σ k j) = τ (it τ q j)
          have hki : σ (it σ k j) ≠ i := hki
          rw [← e, ht _ (it_lt h k hj), if_neg hk, if_neg hki]
  have mini : Least σ i := fun k => by
    rcases Nat.lt_or_ge (it σ k i) i with h1 | h1
    · have fx : ∀ q, it σ q (it σ k i) = it σ k i := by
        intro q
        induction q with
        | zero => rfl
        | succ q ih => show σ (it σ q (it σ k i)) = _; rw [ih]; exact hlow _ h1
      have := it_inj h k (it_lt h k hi) hi (fx k)
      omega
    · exact h1
  have cl : σ i < n := h.lt i hi
  obtain ⟨m, ⟨km, hkm⟩, hmin⟩ := least_of (p := fun x => ∃ k, x = it τ k (σ i)) (σ i) ⟨0, rfl⟩
  have hmn : m < n := by rw [hkm]; exact it_lt h' km cl
  have hmi : m ≠ i := by rw [hkm]; exact itne km _ cl hne
  have minT : Least τ m := fun k => hmin _ ⟨k + km, by rw [it_add, ← hkm]⟩
  have hmo : ∃ q, m = it σ q i := by
    obtain ⟨q, e | e⟩ := sub km (σ i) cl
    · exact ⟨q + 1, by rw [it_succ, ← e, hkm]⟩
    · exact (hne e).elim
  obtain ⟨qm, hqm⟩ := hmo
  have notS : ¬ Least σ m := fun hl => by
    obtain ⟨q, hq⟩ := reach_back h hi qm
    rw [← hqm] at hq
    have a := hl q
    have b := mini qm
    rw [hq] at a
    rw [← hqm] at b
    omega
  have key : ∀ j, j < n → (Least τ j ↔ Least σ j ∨ j = m) := by
    intro j hj
    constructor
    · intro hl
      by_cases hs : Least σ j
      · exact .inl hs
      right
      have hji : j ≠ i := fun e => hs (e ▸ mini)
      obtain ⟨k, hk⟩ : ∃ k, it σ k j < j := by
        apply Classical.byContradiction
        intro hc
        exact hs fun k => by
          rcases Nat.lt_or_ge (it σ k j) j with h1 | h1
          · exact (hc ⟨k, h1⟩).elim
          · exact h1
      have hki : it σ k j = i := by
        apply Classical.byContradiction
        intro hc
        obtain ⟨q, e⟩ := sup k j hj hji hc
        have := hl q
        omega
      -- j ≤ m
      obtain ⟨q1, e1⟩ : ∃ q, σ i = it τ q j := by
        have := sup (k + 1) j hj hji (by simp only [it]; rw [hki]; exact hne)
        simp only [it, hki] at this
        exact this
      have a1 : j ≤ m := by
        have := hl (km + q1)
        rw [it_add, ← e1, ← hkm] at this
        exact this
      -- m ≤ j
      obtain ⟨r, hr⟩ := reach_back h hj k
      rw [hki] at hr
      have a2 : m ≤ j := by
        cases r with
        | zero => exact (hji hr.symm).elim
        | succ r =>
          rw [it_succ] at hr
          obtain ⟨q, e⟩ := sup r (σ i) cl hne (by rw [hr]; exact hji)
          exact hmin j ⟨q, by rw [← e, hr]⟩
      omega
    · rintro (hl | rfl)
      · intro k
        by_cases hji : j = i
        · have : ∀ k, it τ k j = j := by
            intro k
            induction k with
            | zero => rfl
            | succ k ih => show τ (it τ k j) = j; rw [ih, hji, hti]
          rw [this k]; exact Nat.le_refl _
        · obtain ⟨q, e | e⟩ := sub k j hj
          · rw [e]; exact hl q
          · exact (hji e).elim
      · exact minT
  have := count_one (p := Least σ) (q := fun j => Least σ j ∨ j = m) (m := m) notS (fun _ => Iff.rfl) (List.range n) List.nodup_range
  have e1 := this.1 (List.mem_range.2 hmn)
  unfold rounds
  rw [← e1]
  refine List.countP_congr fun j hj => ?_
  rw [lb_iff, lb_iff]
  exact key j (List.mem_range.1 hj)
end Go.Proofs.Ytnaidbmgibmnbaa

/-
  Leaves come home: the plain law.
-/
namespace Go.Proofs.Ytnaidbmgibmnbaa
open Go Go.Lite

theorem nodup_set {l : List Int} {i : Nat} {x : Int} (hn : l.Nodup) (hx : x ∉ l) : (l.set i x).Nodup := by
  unfold List.Nodup
  rw [List.pairwise_iff_getElem]
  intro a b ha hb hab
  have ha' : a < l.length := by simpa using ha
  have hb' : b < l.length := by simpa using hb
  rw [List.getElem_set, List.getElem_set]
  split
  · split
    · omega
    · exact fun e => hx (e ▸ List.getElem_mem hb')
  · split
    · exact fun e => hx (e ▸ List.getElem_mem ha')
    · exact fun e => by have := (List.getElem_inj hn).1 e; omega
theorem swap_perm {l : List Int} {i k : Nat} {a b : Int} (ha : l[i]? = some a) (hb : l[k]? = some b) : ((l.set i b).set k a).Perm l := by
  obtain ⟨hi, rfl⟩ := List.getElem?_eq_some_iff.1 ha
  obtain ⟨hk, rfl⟩ := List.getElem?_eq_some_iff.1 hb
  exact List.set_set_perm hi hk
theorem swap_get {l : List Int} {i k : Nat} {a b : Int} (ha : l[i]? = some a) (hb : l[k]? = some b) (hik : i ≠ k) (j : Nat) : ((l.set i b).set k a)[j]? = if j = k then some a else if j = i then some b else l[j]? := by
  have hi := (List.getElem?_eq_some_iff.1 ha).1
  have hk := (List.getElem?_eq_some_iff.1 hb).1
  by_cases h1 : j = k
  · subst h1
    rw [if_pos rfl, List.getElem?_set_self (by simpa using hk)]
  · rw [if_neg h1, List.getElem?_set_ne (Ne.symm h1)]
    by_cases h2 : j = i
    · subst h2
      rw [if_pos rfl, List.getElem?_set_self hi]
    · rw [if_neg h2, List.getElem?_set_ne (Ne.symm h2)]

/-! ### one step, and back -/

def Ok (l : List Int) : Prop := (∀ x ∈ l, 0 ≤ x ∧ x < 1024) ∧ l.Nodup
theorem pg_of {x : Int} (h : 0 ≤ x ∧ x < 1024) : pgB x = true := by simp [pgB]; omega
def flip1 (s : Sp) : Sp := (s.2.1, s.1, s.2.2)

theorem app1_back {l l' : List Int} {s : Sp} (h : Ok l) (he : app1 l s = (0, l')) : Ok l' ∧ app1 l' (flip1 s) = (0, l) := by
  obtain ⟨f, t, sw⟩ := s
  obtain ⟨hp, hn⟩ := h
  by_cases hf : f ∈ l
  rotate_left
  · simp [app1, hf] at he
  have gf := idx_get hf
  have hfl := idx_lt hf
  cases sw with
  | true =>
    by_cases ht : t ∈ l
    rotate_left
    · simp [app1, hf, ht] at he
    have gt := idx_get ht
    have htl := idx_lt ht
    have e : l' = (l.set (l.idxOf f) t).set (l.idxOf t) f := by simp [app1, hf, ht] at he; exact he.symm
    have hperm := swap_perm gf gt
    rw [← e] at hperm
    have hn' : l'.Nodup := hperm.nodup_iff.2 hn
    refine ⟨⟨fun x hx => hp x (hperm.mem_iff.1 hx), hn'⟩, ?_⟩
    have hf' : f ∈ l' := hperm.mem_iff.2 hf
    have ht' : t ∈ l' := hperm.mem_iff.2 ht
    by_cases eik : f = t
    · subst eik
      have e2 : l' = l := by
        rw [e]
        apply List.ext_getElem?
        intro j
        by_cases hj : l.idxOf f = j
        · rw [← hj, List.getElem?_set_self (by simpa using hfl), gf]
        · rw [List.getElem?_set_ne hj, List.getElem?_set_ne hj]
      subst e2
      simp only [flip1, app1, hf, not_true, if_false, if_true]
      rw [← e]
    · have hik : l.idxOf f ≠ l.idxOf t := fun e3 => eik (by rw [e3, gt] at gf; exact (Option.some.inj gf).symm)
      have sg := swap_get gf gt hik
      rw [← e] at sg
      have i1 : l'.idxOf t = l.idxOf f := idx_at hn' (by rw [sg, if_neg hik, if_pos rfl])
      have i2 : l'.idxOf f = l.idxOf t := idx_at hn' (by rw [sg, if_pos rfl])
      simp only [flip1, app1, hf', ht', not_true, if_false, if_true]
      rw [i1, i2]
      congr 1
      apply List.ext_getElem?
      intro j
      have ll : l'.length = l.length := hperm.length_eq
      by_cases h1 : l.idxOf t = j
      · rw [← h1, List.getElem?_set_self (by simp; omega), gt]
      · rw [List.getElem?_set_ne h1]
        by_cases h2 : l.idxOf f = j
        · rw [← h2, List.getElem?_set_self (by omega), gf]
        · rw [List.getElem?_set_ne h2, sg, if_neg (Ne.symm h1), if_neg (Ne.symm h2)]
  | false =>
    cases hpt : pgB t with
    | false => simp [app1, hf, hpt] at he
    | true =>
    by_cases ht : t ∈ l
    · simp [app1, hf, hpt, ht] at he
    have e : l' = l.set (l.idxOf f) t := by simp [app1, hf, hpt, ht] at he; exact he.symm
    have hn' : l'.Nodup := by rw [e]; exact nodup_set hn ht
    have hne : f ≠ t := fun e3 => ht (e3 ▸ hf)
    have g1 : l'[l.idxOf f]? = some t := by rw [e, List.getElem?_set_self hfl]
    have ht' : t ∈ l' := List.mem_of_getElem? g1
    have i1 : l'.idxOf t = l.idxOf f := idx_at hn' g1
    have hf' : f ∉ l' := fun hm => by
      have g2 := idx_get hm
      by_cases h2 : l.idxOf f = l'.idxOf f
      · rw [← h2, g1] at g2; exact hne (Option.some.inj g2).symm
      · rw [e, List.getElem?_set_ne (by rw [← e]; exact h2)] at g2
        rw [← e] at g2
        exact h2 (nodup_get hn gf g2)
    have hpt' : 0 ≤ t ∧ t < 1024 := by simpa [pgB] using hpt
    refine ⟨⟨fun x hx => ?_, hn'⟩, ?_⟩
    · rw [e] at hx
      rcases List.mem_or_eq_of_mem_set hx with hx | rfl
      · exact hp x hx
      · exact hpt'
    · have e2 : l'.set (l.idxOf f) f = l := by
        apply List.ext_getElem?
        intro j
        by_cases h2 : l.idxOf f = j
        · rw [← h2, List.getElem?_set_self (by rw [e]; simpa using hfl), gf]
        · rw [List.getElem?_set_ne h2, e, List.getElem?_set_ne h2]
      have hpf := pg_of (hp f hf)
      simp [flip1, app1, ht', hpf, hf', i1, e2]
theorem appS_append : ∀ {l m : List Int} {a b : List Sp}, appS l a = (0, m) → appS l (a ++ b) = appS m b
  | l, m, [], b, h => by cases h; rfl
  | l, m, s :: a, b, h => by
    simp only [appS, List.cons_append] at h ⊢
    by_cases h0 : (app1 l s).1 = 0
    · rw [if_pos h0] at h ⊢; exact appS_append h
    · rw [if_neg h0] at h; exact (h0 (Prod.mk.inj h).1).elim
theorem appS_back : ∀ {l m : List Int} {a : List Sp}, Ok l → appS l a = (0, m) → Ok m ∧ appS m (a.reverse.map flip1) = (0, l)
  | l, m, [], h, he => by cases he; exact ⟨h, rfl⟩
  | l, m, s :: a, h, he => by
    simp only [appS] at he
    by_cases h0 : (app1 l s).1 = 0
    · rw [if_pos h0] at he
      obtain ⟨h1, h2⟩ := app1_back h (l' := (app1 l s).2) (by rw [← h0])
      obtain ⟨h3, h4⟩ := appS_back h1 he
      refine ⟨h3, ?_⟩
      rw [List.reverse_cons, List.map_append, appS_append h4]
      simp only [List.map_cons, List.map_nil, appS, h2, if_true]
    · rw [if_neg h0] at he; exact (h0 (Prod.mk.inj he).1).elim
theorem appS_len : ∀ {l m : List Int} {a : List Sp}, appS l a = (0, m) → m.length = l.length
  | l, m, [], he => by cases he; rfl
  | l, m, s :: a, he => by
    simp only [appS] at he
    by_cases h0 : (app1 l s).1 = 0
    · rw [if_pos h0] at he
      rw [appS_len he, app1_len h0]
    · rw [if_neg h0] at he; exact (h0 (Prod.mk.inj he).1).elim
theorem appS_err : ∀ {l : List Int} {a : List Sp}, (appS l a).1 ≠ 0 → (appS l a).2 = []
  | l, [], h => (h rfl).elim
  | l, s :: a, h => by
    simp only [appS] at h ⊢
    by_cases h0 : (app1 l s).1 = 0
    · rw [if_pos h0] at h ⊢; exact appS_err h
    · rw [if_neg h0]

/-! ### all come home -/

structure Inv (hs : List Int) (i : Nat) (l : List Int) : Prop where
  len : l.length = hs.length
  ok : Ok l
  low : ∀ j, j < i → l[j]? = hs[j]?

theorem step_inv {hs : List Int} (hok : Ok hs) {i : Nat} {l : List Int} (v : Inv hs i l) (hi : i < hs.length) :
    Inv hs (i + 1) (rstep hs i l).1 ∧ appS l (rstep hs i l).2 = (0, (rstep hs i l).1) ∧
      ∃ a h, l[i]? = some a ∧ hs[i]? = some h ∧ ((a = h ∧ rstep hs i l = (l, [])) ∨ (a ≠ h ∧ h ∈ l ∧ i < l.idxOf h ∧ rstep hs i l = ((l.set (l.idxOf h) a).set i h, [(a, h, true)])) ∨ (a ≠ h ∧ h ∉ l ∧ rstep hs i l = (l.set i h, [(a, h, false)]))) := by
  obtain ⟨hl, ⟨hp, hn⟩, hlow⟩ := v
  have hil : i < l.length := by omega
  obtain ⟨a, ha⟩ : ∃ a, l[i]? = some a := ⟨_, List.getElem?_eq_getElem hil⟩
  obtain ⟨h, hh⟩ : ∃ h, hs[i]? = some h := ⟨_, List.getElem?_eq_getElem hi⟩
  have ham := List.mem_of_getElem? ha
  have hhm := List.mem_of_getElem? hh
  have ia := idx_at hn ha
  have up : ∀ l' : List Int, (∀ j, j < i → l'[j]? = l[j]?) → l'[i]? = some h → ∀ j, j < i + 1 → l'[j]? = hs[j]? := by
    intro l' h1 h2 j hj
    by_cases e : j = i
    · subst e; rw [h2, hh]
    · rw [h1 j (by omega)]; exact hlow j (by omega)
  by_cases e : a = h
  · have r : rstep hs i l = (l, []) := by simp only [rstep, ha, hh, if_pos e]
    rw [r]
    exact ⟨⟨hl, ⟨hp, hn⟩, up l (fun _ _ => rfl) (by rw [ha, e])⟩, rfl, a, h, ha, hh, .inl ⟨e, rfl⟩⟩
  · by_cases hm : h ∈ l
    · have r : rstep hs i l = ((l.set (l.idxOf h) a).set i h, [(a, h, true)]) := by simp only [rstep, ha, hh, if_neg e, if_pos hm]
      have gh := idx_get hm
      have hik : l.idxOf h ≠ i := fun e2 => e (by rw [e2, ha] at gh; exact Option.some.inj gh)
      have hgt : i < l.idxOf h := by
        rcases Nat.lt_or_ge i (l.idxOf h) with h1 | h1
        · exact h1
        · have h2 := hlow (l.idxOf h) (by omega)
          rw [gh] at h2
          have := nodup_get hok.2 hh h2.symm
          omega
      have hperm : ((l.set (l.idxOf h) a).set i h).Perm l := swap_perm gh ha
      have sg := swap_get gh ha hik
      have hmn : ((l.set (l.idxOf h) a).set i h).Nodup := hperm.nodup_iff.2 hn
      rw [r]
      refine ⟨⟨hperm.length_eq.trans hl, ⟨fun x hx => hp x (hperm.mem_iff.1 hx), hmn⟩, up _ (fun j hj => by rw [sg, if_neg (by omega), if_neg (by omega)]) (by rw [sg, if_pos rfl])⟩, ?_, a, h, ha, hh, .inr (.inl ⟨e, hm, hgt, rfl⟩)⟩
      have e3 : app1 l (a, h, true) = (0, (l.set (l.idxOf h) a).set i h) := by
        simp only [app1, ham, hm, not_true, if_false, if_true, ia]
        rw [List.set_comm _ _ (Ne.symm hik)]
      simp only [appS, e3, if_true]
    · have r : rstep hs i l = (l.set i h, [(a, h, false)]) := by simp only [rstep, ha, hh, if_neg e, if_neg hm]
      rw [r]
      refine ⟨⟨by simp [hl], ⟨fun x hx => ?_, nodup_set hn hm⟩, up _ (fun j hj => by rw [List.getElem?_set_ne (by omega)]) (by rw [List.getElem?_set_self hil])⟩, ?_, a, h, ha, hh, .inr (.inr ⟨e, hm, rfl⟩)⟩
      · rcases List.mem_or_eq_of_mem_set hx with hx | rfl
        · exact hp x hx
        · exact hok.1 x hhm
      · have hpg := pg_of (hok.1 h hhm)
        have e3 : app1 l (a, h, false) = (0, l.set i h) := by simp [app1, ham, hm, hpg, ia]
        simp only [appS, e3, if_true]
theorem inv_end {hs l : List Int} (v : Inv hs hs.length l) : l = hs := by
  apply List.ext_getElem?
  intro j
  by_cases hj : j < hs.length
  · exact v.low j hj
  · rw [List.getElem?_eq_none (by have := v.len; omega), List.getElem?_eq_none (by omega)]
theorem rgo_home {hs : List Int} (hok : Ok hs) : ∀ (d i : Nat) (l : List Int), i + d = hs.length → Inv hs i l → (rgo hs d i l).1 = hs ∧ appS l (rgo hs d i l).2 = (0, hs)
  | 0, i, l, h, v => by
    have : i = hs.length := by omega
    subst this
    have := inv_end v
    subst this
    exact ⟨rfl, rfl⟩
  | d + 1, i, l, h, v => by
    obtain ⟨v', e, _⟩ := step_inv hok v (by omega)
    obtain ⟨h1, h2⟩ := rgo_home hok d (i + 1) _ (by omega) v'
    refine ⟨h1, ?_⟩
    simp only [rgo]
    rw [appS_append e]
    exact h2
theorem rgo_id (hs : List Int) : ∀ (d i : Nat), rgo hs d i hs = (hs, [])
  | 0, i => rfl
  | d + 1, i => by
    have e : rstep hs i hs = (hs, []) := by
      unfold rstep
      cases h : hs[i]? with
      | none => rfl
      | some a => simp
    simp only [rgo, e, rgo_id hs d (i + 1), List.append_nil]
theorem inv0 {hs l : List Int} (hl : l.length = hs.length) (h : Ok l) : Inv hs 0 l := ⟨hl, h, fun j hj => by omega⟩
theorem ok_of {l : List Int} (h : okB l = true) : Ok l := (okB_iff.1 h).2
theorem okB_of {l : List Int} (hl : l.length ≤ 512) (h : Ok l) : okB l = true := okB_iff.2 ⟨hl, h⟩
theorem srt_ok {l : List Int} (h : Ok l) : Ok (srt l) := ⟨fun x hx => h.1 x (srt_mem.1 hx), srt_nodup.2 h.2⟩

/-! ### rounds -/

theorem nxt_pm {hs l : List Int} (hp : l.Perm hs) (hn : hs.Nodup) : Pm (nxt hs l) l.length := by
  have hl := hp.length_eq
  have get : ∀ i, i < l.length → ∃ x, hs[i]? = some x ∧ x ∈ l ∧ nxt hs l i = l.idxOf x := fun i hi => by
    obtain ⟨x, hx⟩ : ∃ x, hs[i]? = some x := ⟨_, List.getElem?_eq_getElem (by omega)⟩
    exact ⟨x, hx, hp.mem_iff.2 (List.mem_of_getElem? hx), by simp only [nxt, hx]⟩
  constructor
  · intro i hi
    obtain ⟨x, _, hm, e⟩ := get i hi
    rw [e]; exact idx_lt hm
  · intro i j hi hj e
    obtain ⟨x, hx, hm, e1⟩ := get i hi
    obtain ⟨y, hy, hm', e2⟩ := get j hj
    rw [e1, e2] at e
    have g1 := idx_get hm
    have g2 := idx_get hm'
    rw [e, g2] at g1
    cases g1
    exact nodup_get hn hx hy
theorem cyc_rounds {l : List Int} (h : Ok l) : cycS l = rounds (nxt (srt l) l) l.length := cgo_rounds (nxt_pm (srt_perm l).symm (srt_nodup.2 h.2))
theorem cyc_home {hs : List Int} (h : Ok hs) (hsr : srt hs = hs) : cycS hs = hs.length := by
  rw [cyc_rounds h, hsr]
  have fx : ∀ j, j < hs.length → nxt hs hs j = j := fun j hj => by
    have e := List.getElem?_eq_getElem hj
    simp only [nxt, e]
    exact idx_at h.2 e
  have fi : ∀ k j, j < hs.length → it (nxt hs hs) k j = j := by
    intro k
    induction k with
    | zero => intro j _; rfl
    | succ k ih => intro j hj; simp only [it, ih j hj, fx j hj]
  unfold rounds
  have : (List.range hs.length).countP (fun j => lb (Least (nxt hs hs) j)) = (List.range hs.length).countP fun _ => true := by
    refine List.countP_congr fun j hj => ?_
    rw [lb_iff]
    exact ⟨fun _ => rfl, fun _ k => by rw [fi k j (List.mem_range.1 hj)]; exact Nat.le_refl _⟩
  rw [this]
  simp
theorem cyc_step {hs l : List Int} (hok : Ok hs) (hp : l.Perm hs) (hsr : srt hs = hs) {i : Nat} (v : Inv hs i l) {a h : Int} (ha : l[i]? = some a) (hh : hs[i]? = some h) (hne : a ≠ h) :
    ((l.set (l.idxOf h) a).set i h).Perm hs ∧ cycS ((l.set (l.idxOf h) a).set i h) = cycS l + 1 := by
  have hm : h ∈ l := hp.mem_iff.2 (List.mem_of_getElem? hh)
  have gh := idx_get hm
  have hik : l.idxOf h ≠ i := fun e2 => hne (by rw [e2, ha] at gh; exact Option.some.inj gh)
  have hperm : ((l.set (l.idxOf h) a).set i h).Perm l := swap_perm gh ha
  have hp' := hperm.trans hp
  have sg := swap_get gh ha hik
  have okl := v.ok
  have okl' : Ok ((l.set (l.idxOf h) a).set i h) := ⟨fun x hx => okl.1 x (hperm.mem_iff.1 hx), hperm.nodup_iff.2 okl.2⟩
  refine ⟨hp', ?_⟩
  have hil := (List.getElem?_eq_some_iff.1 ha).1
  have hll := hp.length_eq
  rw [cyc_rounds okl, cyc_rounds okl', (srt_of_perm hp).trans hsr, (srt_of_perm hp').trans hsr, hperm.length_eq]
  have pm' := nxt_pm hp' hok.2
  rw [hperm.length_eq] at pm'
  have si : nxt hs l i = l.idxOf h := by simp only [nxt, hh]
  refine bypass (nxt_pm hp hok.2) pm' hil (by rw [si]; exact hik) (fun j hj => ?_) (fun j hj => ?_)
  · have hj' := v.low j hj
    have e := List.getElem?_eq_getElem (l := l) (i := j) (by omega)
    rw [e] at hj'
    simp only [nxt, ← hj']
    exact idx_at okl.2 e
  · obtain ⟨y, hy⟩ : ∃ y, hs[j]? = some y := ⟨_, List.getElem?_eq_getElem (by omega)⟩
    have hym : y ∈ l := hp.mem_iff.2 (List.mem_of_getElem? hy)
    have gy := idx_get hym
    have nj : nxt hs ((l.set (l.idxOf h) a).set i h) j = ((l.set (l.idxOf h) a).set i h).idxOf y := by simp only [nxt, hy]
    have nl : nxt hs l j = l.idxOf y := by simp only [nxt, hy]
    rw [nj, nl, si]
    by_cases hji : j = i
    · subst hji
      rw [hh] at hy
      cases hy
      rw [if_pos rfl]
      exact idx_at okl'.2 (by rw [sg, if_pos rfl])
    · rw [if_neg hji]
      have hyh : y ≠ h := fun e => hji (nodup_get hok.2 hy (e ▸ hh))
      by_cases hyi : l.idxOf y = i
      · rw [if_pos hyi]
        rw [hyi, ha] at gy
        cases gy
        exact idx_at okl'.2 (by rw [sg, if_neg hik, if_pos rfl])
      · rw [if_neg hyi]
        refine idx_at okl'.2 ?_
        rw [sg, if_neg hyi, if_neg (fun e => hyh (by rw [e, gh] at gy; exact (Option.some.inj gy).symm)), gy]

/-- each step makes the rounds one more -/
theorem rgo_first {hs : List Int} (hok : Ok hs) (hsr : srt hs = hs) : ∀ (d i : Nat) (l : List Int), i + d = hs.length → Inv hs i l → l.Perm hs → ∀ (s : Sp) (r : List Sp), (rgo hs d i l).2 = s :: r →
    ∃ l' d' i', i' + d' = hs.length ∧ Inv hs i' l' ∧ l'.Perm hs ∧ app1 l s = (0, l') ∧ cycS l' = cycS l + 1 ∧ (rgo hs d' i' l').2 = r
  | 0, i, l, _, _, _, s, r, e => by simp [rgo] at e
  | d + 1, i, l, hd, v, hp, s, r, e => by
    obtain ⟨v', ea, a, h, ha, hh, hc⟩ := step_inv hok v (by omega)
    have hm : h ∈ l := hp.mem_iff.2 (List.mem_of_getElem? hh)
    simp only [rgo] at e
    rcases hc with ⟨_, er⟩ | ⟨hne, _, _, er⟩ | ⟨_, hno, _⟩
    · rw [er] at e v'
      exact rgo_first hok hsr d (i + 1) l (by omega) v' hp s r (by simpa using e)
    · obtain ⟨hp', hcy⟩ := cyc_step hok hp hsr v ha hh hne
      rw [er] at e v' ea
      simp only [List.cons_append, List.nil_append, List.cons.injEq] at e
      obtain ⟨rfl, e⟩ := e
      refine ⟨_, d, i + 1, by omega, v', hp', ?_, hcy, e⟩
      simp only [appS] at ea
      split at ea
      · rename_i h0
        have : (app1 l (a, h, true)).2 = (l.set (l.idxOf h) a).set i h := (Prod.mk.inj ea).2
        rw [← this, ← h0]
      · rename_i h0; exact (h0 (Prod.mk.inj ea).1).elim
    · exact (hno hm).elim
theorem rgo_count {hs : List Int} (hok : Ok hs) (hsr : srt hs = hs) : ∀ (d i : Nat) (l : List Int), i + d = hs.length → Inv hs i l → l.Perm hs → cycS l + (rgo hs d i l).2.length = hs.length
  | 0, i, l, hd, v, _ => by
    have : i = hs.length := by omega
    subst this
    have := inv_end v
    subst this
    simp [rgo, cyc_home hok hsr]
  | d + 1, i, l, hd, v, hp => by
    obtain ⟨v', ea, a, h, ha, hh, hc⟩ := step_inv hok v (by omega)
    have hm : h ∈ l := hp.mem_iff.2 (List.mem_of_getElem? hh)
    simp only [rgo, List.length_append]
    rcases hc with ⟨_, er⟩ | ⟨hne, _, _, er⟩ | ⟨_, hno, _⟩
    · rw [er] at v' ⊢
      have := rgo_count hok hsr d (i + 1) l (by omega) v' hp
      simpa using this
    · obtain ⟨hp', hcy⟩ := cyc_step hok hp hsr v ha hh hne
      rw [er] at v' ⊢
      have : cycS ((l.set (l.idxOf h) a).set i h) + (rgo hs d (i + 1) ((l.set (l.idxOf h) a).set i h)).2.length = hs.length := rgo_count hok hsr d (i + 1) _ (by omega) v' hp'
      show cycS l + (1 + (rgo hs d (i + 1) ((l.set (l.idxOf h) a).set i h)).2.length) = hs.length
      omega
    · exact (hno hm).elim
end Go.Proofs.Ytnaidbmgibmnbaa
