/-
  The interpreter without a bound: what a call hands back, if any number of steps hands it back.
-/
import Derived.Test.YtknapnnpmfhogaaLite17
namespace Go.Lite
open Go
def CLe (a b : CallF) : Prop := (∀ f as r, a.pc f as = some r → b.pc f as = some r) ∧ ∀ f as m r, a.ic f as m = some r → b.ic f as m = some r
section
variable {cfg : Cfg} {a b : CallF}
theorem callA_mono (h : CLe a b) {dr : Bool} {f : FuncId} {args : List V} {mem : List O} {r : V × List O} (hr : callA cfg a dr f args mem = some r) : callA cfg b dr f args mem = some r := by
  unfold callA at hr ⊢
  split at hr
  · cases hr
  · rename_i h1
    rw [if_neg h1]
    split at hr
    · rename_i h2
      rw [if_pos h2]
      simp only [Option.bind_eq_some_iff] at hr ⊢
      obtain ⟨as, q1, x, q2, q3⟩ := hr
      exact ⟨as, q1, x, h.1 _ _ _ q2, q3⟩
    · rename_i h2
      rw [if_neg h2]
      split at hr
      · cases hr
      · rename_i h3
        rw [if_neg h3]
        cases hcf : cfg.can f with
        | none => rw [hcf] at hr; exact h.2 _ _ _ _ hr
        | some rd =>
          rw [hcf] at hr
          simp only [canA, Option.map_eq_some_iff] at hr ⊢
          obtain ⟨x, q1, q2⟩ := hr
          exact ⟨x, h.2 _ _ _ _ q1, q2⟩
theorem framedA_mono (h : CLe a b) {f : FuncId} {args : List V} {mem : List O} {r : V × List O} (hr : framedA a f args mem = some r) : framedA b f args mem = some r := by
  unfold framedA at hr ⊢
  split at hr
  · cases hr
  rename_i hna
  rw [if_neg hna]
  simp only [Option.bind_eq_some_iff] at hr ⊢
  obtain ⟨x, h1, h2⟩ := hr
  exact ⟨x, h.2 _ _ _ _ h1, h2⟩
theorem opA_mono (h : CLe a b) {dr : Bool} {o : OpA} {env : List V} {mem : List O} {r : V × List O} (hr : opA cfg a dr o env mem = some r) : opA cfg b dr o env mem = some r := by
  rcases o with ⟨dst, op, ty, gu⟩
  cases op
  case call c =>
    obtain ⟨callee, args, ats⟩ := c
    cases callee
    case value f =>
      simp only [opA, Option.bind_eq_some_iff] at hr ⊢
      obtain ⟨fv, q1, args, q2, q3⟩ := hr
      refine ⟨fv, q1, args, q2, ?_⟩
      cases fv <;> first | exact q3 | skip
      simp only at q3 ⊢
      split at q3
      · rename_i hx
        rw [if_pos hx]
        split at q3
        · rename_i hy; rw [if_pos hy]; exact framedA_mono h q3
        · cases q3
      · rename_i hx; rw [if_neg hx]; exact callA_mono h q3
    all_goals exact hr
  case makeFunc fn first caps => cases fn <;> exact hr
  case makeMap t rs => cases rs <;> exact hr
  all_goals exact hr
theorem opX_mono (h : CLe a b) {dr : Bool} {o : OpA} {env : List V} {mem : List O} {r : V × List O} (hr : opX cfg a dr o env mem = some r) : opX cfg b dr o env mem = some r := by
  unfold opX at hr ⊢
  split at hr
  · rename_i hx
    rw [if_pos hx]
    simp only [Option.bind_eq_some_iff] at hr ⊢
    obtain ⟨x, q1, q2⟩ := hr
    exact ⟨x, opA_mono h q1, q2⟩
  · rename_i hx
    rw [if_neg hx]
    exact opA_mono h hr
theorem opsA_mono (h : CLe a b) {dr : Bool} : ∀ (l : List OpA) (s s' : S), opsA cfg a dr l s = some s' → opsA cfg b dr l s = some s' := by
  intro l
  induction l with
  | nil => intro s s' hr; exact hr
  | cons o l ih =>
    intro s s' hr
    simp only [opsA, Option.bind_eq_some_iff] at hr ⊢
    obtain ⟨w, q1, q2⟩ := hr
    refine ⟨w, q1, ?_⟩
    cases w
    · exact ih _ _ q2
    · simp only [if_true, Option.bind_eq_some_iff] at q2 ⊢
      obtain ⟨x, q3, q4⟩ := q2
      exact ⟨x, opX_mono h q3, ih _ _ q4⟩
theorem iter_mono {f g : S → Option (Ex × S)} (h : ∀ s r, f s = some r → g s = some r) : ∀ (n m : Nat) (s : S) (r : Ex × S), n ≤ m → iter f n s = some r → iter g m s = some r := by
  intro n
  induction n with
  | zero => intro m s r _ hr; simp [iter] at hr
  | succ n ih =>
    intro m s r hm hr
    cases m with
    | zero => omega
    | succ m =>
      simp only [iter, Option.bind_eq_some_iff] at hr ⊢
      obtain ⟨⟨x, s'⟩, q1, q2⟩ := hr
      refine ⟨(x, s'), h _ _ q1, ?_⟩
      cases x
      · exact ih m s' r (by omega) q2
      · exact q2
      · exact q2
theorem exec_mono (h : CLe a b) {n m n0 : Nat} (hm : n ≤ m) : ∀ (c : C) (s : S) (r : Ex × S), exec cfg a n n0 c s = some r → exec cfg b m n0 c s = some r := by
  intro c
  induction c with
  | skip => intro s r hr; exact hr
  | ops dr l =>
    intro s r hr
    simp only [exec, Option.bind_eq_some_iff] at hr ⊢
    obtain ⟨s', q1, q2⟩ := hr
    exact ⟨s', opsA_mono h _ _ _ q1, q2⟩
  | seq p q ihp ihq =>
    intro s r hr
    simp only [exec, Option.bind_eq_some_iff] at hr ⊢
    obtain ⟨⟨x, s'⟩, q1, q2⟩ := hr
    refine ⟨(x, s'), ihp _ _ q1, ?_⟩
    cases x
    · exact ihq _ _ q2
    · exact q2
    · exact q2
  | cond c p q ihp ihq =>
    intro s r hr
    simp only [exec, Option.bind_eq_some_iff] at hr ⊢
    obtain ⟨v, q1, q2⟩ := hr
    refine ⟨v, q1, ?_⟩
    cases v <;> simp only at q2 ⊢ <;> first | (cases q2; done) | skip
    split at q2
    · rename_i t; rw [if_pos t]; exact ihp _ _ q2
    · rename_i t; rw [if_neg t]; exact ihq _ _ q2
  | block id p ih =>
    intro s r hr
    simp only [exec, Option.map_eq_some_iff] at hr ⊢
    obtain ⟨x, q1, q2⟩ := hr
    exact ⟨x, ih _ _ q1, q2⟩
  | loop f p ih =>
    intro s r hr
    simp only [exec, Option.map_eq_some_iff] at hr ⊢
    obtain ⟨x, q1, q2⟩ := hr
    exact ⟨x, iter_mono (fun s r h => ih _ _ h) n m s x hm q1, q2⟩
  | exit i => intro s r hr; exact hr
  | ret => intro s r hr; exact hr
  | start g => intro s r hr; exact hr
  | cseq f p q ihp ihq =>
    intro s r hr
    simp only [exec, Option.bind_eq_some_iff] at hr ⊢
    obtain ⟨⟨x, s'⟩, q1, q2⟩ := hr
    refine ⟨(x, s'), ihp _ _ q1, ?_⟩
    cases x with
    | norm => exact ihq _ _ q2
    | exit i => exact q2
    | ret => exact q2
  | uncons g ps ws p q ihp ihq =>
    intro s r hr
    simp only [exec] at hr ⊢
    cases he : s.env[g]? with
    | none => simp only [he] at hr; cases hr
    | some v =>
      simp only [he] at hr ⊢
      cases v <;> first | (cases hr; done) | skip
      rename_i ts l
      cases l with
      | nil => exact ihq _ _ hr
      | cons x l =>
        cases x <;> first | (cases hr; done) | skip
        try simp only at hr
        try simp only
        split at hr
        · rename_i hc
          rw [if_pos hc]
          simp only [Option.map_eq_some_iff] at hr ⊢
          obtain ⟨x, q1, q2⟩ := hr
          exact ⟨x, ihp _ _ q1, q2⟩
        · cases hr
theorem runF_mono (h : CLe a b) {n m : Nat} (hm : n ≤ m) {fa : FA} {args : List V} {mem : List O} {r : List V × List O} (hr : runF cfg a n fa args mem = some r) : runF cfg b m fa args mem = some r := by
  unfold runF at hr ⊢
  split at hr
  · rename_i hc
    rw [if_pos hc]
    simp only [Option.bind_eq_some_iff] at hr ⊢
    obtain ⟨x, q1, q2⟩ := hr
    exact ⟨x, exec_mono h hm _ _ _ q1, q2⟩
  · cases hr
theorem pcN_mono (h : CLe a b) {n m : Nat} (hm : n ≤ m) {f : FuncId} {as : List V} {r : V} (hr : pcN cfg a n f as = some r) : pcN cfg b m f as = some r := by
  unfold pcN at hr ⊢
  split at hr
  · exact hr
  · split at hr
    rotate_left
    · cases hr
    rename_i hc
    rw [if_pos hc]
    simp only [Option.bind_eq_some_iff] at hr ⊢
    obtain ⟨fa, q1, x, q2, q3⟩ := hr
    exact ⟨fa, q1, x, runF_mono h hm q2, q3⟩
theorem icN_mono (h : CLe a b) {n m : Nat} (hm : n ≤ m) {f : FuncId} {as : List V} {mem : List O} {r : V × List O} (hr : icN cfg a n f as mem = some r) : icN cfg b m f as mem = some r := by
  unfold icN at hr ⊢
  split at hr
  · exact hr
  · simp only [Option.bind_eq_some_iff, Option.map_eq_some_iff] at hr ⊢
    obtain ⟨fa, q1, x, q2, q3⟩ := hr
    exact ⟨fa, q1, x, runF_mono h hm q2, q3⟩
theorem callN_succ (n : Nat) : CLe (callN cfg n) (callN cfg (n + 1)) := by
  induction n with
  | zero => exact ⟨fun f as r h => by simp [callN] at h, fun f as m r h => by simp [callN] at h⟩
  | succ n ih => exact ⟨fun f as r h => pcN_mono ih (Nat.le_succ n) h, fun f as m r h => icN_mono ih (Nat.le_succ n) h⟩
theorem CLe.refl (a : CallF) : CLe a a := ⟨fun _ _ _ h => h, fun _ _ _ _ h => h⟩
theorem CLe.trans {c : CallF} (h : CLe a b) (h' : CLe b c) : CLe a c := ⟨fun f as r q => h'.1 f as r (h.1 f as r q), fun f as m r q => h'.2 f as m r (h.2 f as m r q)⟩
theorem callN_mono {n m : Nat} (h : n ≤ m) : CLe (callN cfg n) (callN cfg m) := by
  induction m with
  | zero => have : n = 0 := by omega
            subst this; exact CLe.refl _
  | succ m ih =>
    by_cases e : n = m + 1
    · subst e; exact CLe.refl _
    · exact (ih (by omega)).trans (callN_succ m)
open Classical in
noncomputable def lim {α : Type} (f : Nat → Option α) : Option α := if h : ∃ n, (f n).isSome = true then f (Classical.choose h) else none
def Mono {α : Type} (f : Nat → Option α) : Prop := ∀ n m x, n ≤ m → f n = some x → f m = some x
theorem lim_ex {α : Type} {f : Nat → Option α} {x : α} (h : lim f = some x) : ∃ n, f n = some x := by
  unfold lim at h
  split at h
  · exact ⟨_, h⟩
  · cases h
theorem lim_of {α : Type} {f : Nat → Option α} (hf : Mono f) {n : Nat} {x : α} (h : f n = some x) : lim f = some x := by
  unfold lim
  have he : ∃ n, (f n).isSome = true := ⟨n, by simp [h]⟩
  rw [dif_pos he]
  have h1 : (f (Classical.choose he)).isSome = true := Classical.choose_spec he
  generalize Classical.choose he = k at h1
  cases h2 : f k with
  | none => simp [h2] at h1
  | some y =>
    have e1 := hf k (max k n) y (Nat.le_max_left _ _) h2
    have e2 := hf n (max k n) x (Nat.le_max_right _ _) h
    rw [e1] at e2
    exact e2
end
end Go.Lite