/-
  Lists of operations: in whatever order.
-/
import Derived.Test.YthojkngbpcjicaaLite13
namespace Go.Lite
open Go Go.MapKept

section
variable {P : Program} {Z Z' : Zs} {w w' : World} {j j' : J} {mem mem' : List O}

/-- one operation, as the interpreter carries it out -/
def StepA (cfg : Cfg) (call : CallF) (o : OpA) (s : S) (v : V) (s' : S) : Prop :=
  (wantedA s.env o.guard = some true ∧ opA cfg call true o s.env s.mem = some (v, s'.mem) ∧ s'.env = setO s.env o.dst v) ∨
  (wantedA s.env o.guard = some false ∧ v = .tup [] ∧ s'.mem = s.mem ∧ s'.env = setO s.env o.dst v)

theorem trace {cfg : Cfg} {call : CallF} : ∀ (l : List OpA) (s s' : S), opsA cfg call true l s = some s' →
    ∃ (vs : Nat → V) (st : Nat → S), st 0 = s ∧ st l.length = s' ∧ ∀ (k : Nat) (o : OpA), l[k]? = some o → StepA cfg call o (st k) (vs k) (st (k + 1)) := by
  intro l
  induction l with
  | nil => intro s s' h; simp [opsA] at h; subst h; exact ⟨fun _ => .junk, fun _ => s, rfl, rfl, fun k o h => by simp at h⟩
  | cons o l ih =>
    intro s s' h
    simp only [opsA] at h
    have fin : ∀ (v : V) (s1 : S), StepA cfg call o s v s1 → opsA cfg call true l s1 = some s' → ∃ (vs : Nat → V) (st : Nat → S), st 0 = s ∧ st (o :: l).length = s' ∧ ∀ (k : Nat) (q : OpA), (o :: l)[k]? = some q → StepA cfg call q (st k) (vs k) (st (k + 1)) := by
      intro v s1 h1 h2
      obtain ⟨vs, st, e0, e1, e2⟩ := ih s1 s' h2
      refine ⟨fun k => match k with | 0 => v | k + 1 => vs k, fun k => match k with | 0 => s | k + 1 => st k, rfl, e1, fun k q hq => ?_⟩
      cases k with
      | zero => simp at hq; subst hq; simpa [e0] using h1
      | succ k => exact e2 k q (by simpa using hq)
    cases hw : wantedA s.env o.guard with
    | none => simp [hw] at h
    | some b =>
      cases b
      · simp [hw] at h
        exact fin (.tup []) ⟨setO s.env o.dst (.tup []), s.mem⟩ (.inr ⟨hw, rfl, rfl, rfl⟩) h
      · simp only [hw, Option.bind_some, if_true] at h
        cases ho : opA cfg call true o s.env s.mem with
        | none => simp [ho] at h
        | some r =>
          obtain ⟨v, m⟩ := r
          simp only [ho, Option.bind_some] at h
          exact fin v _ (.inl ⟨hw, ho, rfl⟩) h

/-- the slots that an operation looks at -/
def looksA (o : OpA) : List Nat :=
  (o.op.operands.toList.filterMap fun | .tmp t => some t | _ => none) ++ (match o.guard with | some (t, _) => [t] | none => [])

theorem evalO_congr {e1 e2 : List V} {x : Operand} (h : ∀ t, x = .tmp t → e1[t]? = e2[t]?) : evalO e1 x = evalO e2 x := by
  cases x <;> simp [evalO]
  exact h _ rfl
theorem evalL_congr {e1 e2 : List V} {l : List Operand} (h : ∀ x ∈ l, evalO e1 x = evalO e2 x) : mapO (evalO e1) l = mapO (evalO e2) l := by
  induction l with
  | nil => rfl
  | cons x l ih => simp only [mapO]; rw [h x (by simp), ih fun y hy => h y (by simp [hy])]
theorem parts_congr {e1 e2 : List V} {l : List (Nat × Operand)} (h : ∀ p ∈ l, evalO e1 p.2 = evalO e2 p.2) : mapO (partO e1) l = mapO (partO e2) l := by
  induction l with
  | nil => rfl
  | cons x l ih => simp only [mapO, partO]; rw [h x (by simp), ih fun y hy => h y (by simp [hy])]

theorem opA_congr {cfg : Cfg} {call : CallF} {dr : Bool} {o : OpA} {e1 e2 : List V} (h : ∀ x ∈ o.op.operands, evalO e1 x = evalO e2 x) (m : List O) : opA cfg call dr o e1 m = opA cfg call dr o e2 m := by
  have om : ∀ (x : Option Operand), (∀ y, x = some y → evalO e1 y = evalO e2 y) → x.map (evalO e1) = x.map (evalO e2) := by
    intro x hx
    cases x with
    | none => rfl
    | some y => simp [hx y rfl]
  simp only [opA]
  cases hop : o.op <;> simp only [hop, Op.operands, Call.operands] at h ⊢
  case build t ps =>
    rw [parts_congr (e1 := e1) (e2 := e2) fun p hp => h p.2 (by simp; exact ⟨p.1, by simpa using hp⟩)]
  case buildSlice t n ps =>
    rw [parts_congr (e1 := e1) (e2 := e2) fun p hp => h p.2 (by simp; exact ⟨p.1, by simpa using hp⟩)]
  case makeFunc fn first caps =>
    cases fn <;> simp only
    rw [evalL_congr (e1 := e1) (e2 := e2) fun x hx => h x (by simp; exact .inr (by simpa using hx))]
  case slice t x lo hi mx =>
    rw [h x (by simp), om lo fun y hy => h y (by simp [hy]), om hi fun y hy => h y (by simp [hy]), om mx fun y hy => h y (by simp [hy])]
  case call c =>
    cases hc : c.callee <;> simp only [hc] at h ⊢
    · rename_i f
      rw [h f (by simp), evalL_congr (e1 := e1) (e2 := e2) fun x hx => h x (by simp; exact .inr (by simpa using hx))]
    · rw [evalL_congr (e1 := e1) (e2 := e2) fun x hx => h x (by simpa using hx)]
  case makeMap t r => cases r <;> simp
  all_goals first
    | rfl
    | (simp at h; simp [h]; done)
    | (simp at h; obtain ⟨h1, h2⟩ := h; rw [h1, h2])
    | (simp at h; obtain ⟨h1, h2, h3⟩ := h; rw [h1, h2, h3])
    | (simp at h; rw [h])

theorem neutral1 {cfg : Cfg} {call : CallF} {o : OpA} {env : List V} {v : V} (hw : writesM o.op = false) (h : opA cfg call true o env mem = some (v, mem')) : mem' = mem := by
  simp only [opA] at h
  cases hop : o.op <;> simp only [hop, writesM] at h hw <;> first | (cases h; done) | (cases hw; done) | skip
  case assign x =>
    cases hx : evalO env x with
    | none => simp [hx] at h
    | some a =>
      simp only [hx, Option.bind_some] at h
      cases a <;> simp at h <;> exact h.2.symm
  case pick c a b =>
    cases hc : evalO env c with
    | none => simp [hc] at h
    | some vc =>
      cases ha : evalO env a with
      | none => simp [hc, ha] at h
      | some va =>
        cases hb : evalO env b with
        | none => simp [hc, ha, hb] at h
        | some vb =>
          simp only [hc, ha, hb, Option.bind_some] at h
          cases vc <;> simp at h
          exact h.2.symm
  case makeFunc fn first caps =>
    cases fn <;> simp only at h <;> first | (cases h; done) | skip
    split at h
    · simp only [Option.map_eq_some_iff] at h
      obtain ⟨_, _, h⟩ := h
      cases h; rfl
    · cases h
  case field st x f =>
    cases hx : evalO env x with
    | none => simp [hx] at h
    | some p =>
      simp only [hx, Option.bind_some] at h
      cases p <;> simp only at h <;> first | (cases h; done) | skip
      simp only [Option.bind_eq_some_iff, Option.map_eq_some_iff] at h
      obtain ⟨_, _, _, _, h⟩ := h
      cases h; rfl
  case extract t i =>
    cases hx : evalO env t with
    | none => simp [hx] at h
    | some p =>
      simp only [hx, Option.bind_some] at h
      cases p <;> simp only at h <;> first | (cases h; done) | skip
      simp only [Option.map_eq_some_iff] at h
      obtain ⟨_, _, h⟩ := h
      cases h; rfl
  case lookup t m k ok =>
    cases hx : evalO env m with
    | none => simp [hx] at h
    | some p =>
      cases hy : evalO env k with
      | none => simp [hx, hy] at h
      | some q =>
        simp only [hx, hy, Option.bind_some] at h
        cases p <;> simp only at h <;> first | (cases h; done) | skip
        split at h
        · split at h
          · simp only [Option.bind_eq_some_iff, Option.map_eq_some_iff] at h
            obtain ⟨_, _, _, _, _, _, h⟩ := h
            cases h; rfl
          · cases h
        · cases h
  case call c =>
    cases hc : c.callee <;> simp only [hc] at h hw <;> first | (cases h; done) | skip
    case builtin b =>
      simp only [Option.bind_eq_some_iff] at h
      obtain ⟨args, _, h⟩ := h
      cases b <;> simp at hw <;> simp only [builtinA] at h
      · unfold lenB at h
        split at h
        · simp only [Option.map_eq_some_iff] at h
          obtain ⟨_, _, h⟩ := h
          cases h; rfl
        · cases h
      · cases args <;> simp only [foldB] at h
        · cases h
        · simp only [Option.map_eq_some_iff] at h
          obtain ⟨_, _, h⟩ := h
          cases h; rfl
      · cases args <;> simp only [foldB] at h
        · cases h
        · simp only [Option.map_eq_some_iff] at h
          obtain ⟨_, _, h⟩ := h
          cases h; rfl
    case value f =>
      simp only [Option.bind_eq_some_iff] at h
      obtain ⟨fv, _, args, _, h⟩ := h
      cases fv <;> simp only at h <;> first | (cases h; done) | skip
      unfold callA at h
      split at h
      · cases h
      · split at h
        · simp only [Option.bind_eq_some_iff] at h
          obtain ⟨as, _, r, _, h⟩ := h
          have tk : ∀ (ad : Bool), (takeT (ad && !true) mem r).2 = mem := by
            intro ad
            simp only [Bool.not_true, Bool.and_false]
            cases r <;> first | rfl | exact take1_false _ _
          split at h
          · split at h
            · cases h
            · rename_i hz
              simp only [Bool.true_and, Bool.not_eq_true, Bool.not_eq_false', List.isEmpty_iff] at hz
              rw [hz] at h
              simp only [freezeAll] at h
              injection h with h
              have := congrArg Prod.snd h
              rw [tk] at this
              exact this.symm
          · injection h with h
            have := congrArg Prod.snd h
            rw [tk] at this
            exact this.symm
        · cases h
  all_goals
    (simp only [Option.bind_eq_some_iff, Option.map_eq_some_iff] at h
     first
     | (obtain ⟨_, _, h⟩ := h; cases h; rfl)
     | (obtain ⟨_, _, _, _, h⟩ := h; cases h; rfl)
     | (obtain ⟨_, _, _, _, _, _, h⟩ := h; cases h; rfl))

theorem neutral2 {cfg : Cfg} {call : CallF} {o : OpA} {env : List V} {v : V} (hw : writesM o.op = false) (hr : readsM o.op = false) (h : opA cfg call true o env mem = some (v, mem')) (m2 : List O) : opA cfg call true o env m2 = some (v, m2) := by
  simp only [opA] at h ⊢
  cases hop : o.op <;> simp only [hop, writesM, readsM] at h hw hr ⊢ <;> first | (cases h; done) | (cases hw; done) | (cases hr; done) | skip
  case assign x =>
    cases hx : evalO env x with
    | none => simp [hx] at h
    | some a =>
      simp only [hx, Option.bind_some] at h ⊢
      cases a <;> simp at h ⊢ <;> exact h.1
  case pick c a b =>
    cases hc : evalO env c with
    | none => simp [hc] at h
    | some vc =>
      cases ha : evalO env a with
      | none => simp [hc, ha] at h
      | some va =>
        cases hb : evalO env b with
        | none => simp [hc, ha, hb] at h
        | some vb =>
          simp only [hc, ha, hb, Option.bind_some] at h ⊢
          cases vc <;> simp at h ⊢
          exact h.1
  case makeFunc fn first caps =>
    cases fn <;> simp only at h ⊢ <;> first | (cases h; done) | skip
    split at h
    · rename_i hc
      rw [if_pos hc]
      simp only [Option.map_eq_some_iff] at h ⊢
      obtain ⟨x, hx, h⟩ := h
      cases h
      exact ⟨x, hx, rfl⟩
    · cases h
  case field st x f =>
    cases hx : evalO env x with
    | none => simp [hx] at h
    | some p =>
      simp only [hx, Option.bind_some] at h ⊢
      cases p <;> simp only at h ⊢ <;> first | (cases h; done) | skip
      simp only [Option.bind_eq_some_iff, Option.map_eq_some_iff] at h ⊢
      obtain ⟨a, ha, b, hb, h⟩ := h
      cases h
      exact ⟨_, ha, _, hb, rfl⟩
  case extract t i =>
    cases hx : evalO env t with
    | none => simp [hx] at h
    | some p =>
      simp only [hx, Option.bind_some] at h ⊢
      cases p <;> simp only at h ⊢ <;> first | (cases h; done) | skip
      simp only [Option.map_eq_some_iff] at h ⊢
      obtain ⟨a, ha, h⟩ := h
      cases h
      exact ⟨_, ha, rfl⟩
  all_goals
    (simp only [Option.bind_eq_some_iff, Option.map_eq_some_iff] at h ⊢
     first
     | (obtain ⟨a, ha, h⟩ := h; cases h; exact ⟨_, ha, rfl⟩)
     | (obtain ⟨a, ha, b, hb, h⟩ := h; cases h; exact ⟨_, ha, _, hb, rfl⟩)
     | (obtain ⟨a, ha, b, hb, c, hc, h⟩ := h; cases h; exact ⟨_, ha, _, hb, _, hc, rfl⟩))
end

end Go.Lite
