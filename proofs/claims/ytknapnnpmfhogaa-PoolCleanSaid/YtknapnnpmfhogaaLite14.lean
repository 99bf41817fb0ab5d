/-
  Lists of operations: in whatever order.
-/
import Derived.Test.YtknapnnpmfhogaaLite13
namespace Go.Lite
open Go Go.MapKept
section
variable {P : Program} {Z Z' : Zs} {w w' : World} {j j' : J} {mem mem' : List O}
def StepA (cfg : Cfg) (call : CallF) (o : OpA) (s : S) (v : V) (s' : S) : Prop :=
  (wantedA s.env o.guard = some true ∧ opX cfg call (drO true o) o s.env s.mem = some (v, s'.mem) ∧ s'.env = setO s.env o.dst v) ∨
  (wantedA s.env o.guard = some false ∧ v = .tup [] ∧ s'.mem = s.mem ∧ s'.env = setO s.env o.dst v)
theorem trace {cfg : Cfg} {call : CallF} : ∀ (l : List OpA) (s s' : S), opsA cfg call true l s = some s' →
    ∃ (vs : Nat → V) (st : Nat → S), st 0 = s ∧ st l.length = s' ∧ ∀ (k : Nat) (o : OpA), l[k]? = some o → StepA cfg call o (st k) (vs k) (st (k + 1)) := by
  intro l
  induction l with
  | nil => intro s s' h; simp [opsA] at h; subst h; exact ⟨fun _ => .junk, fun _ => s, rfl, rfl, fun k o h => by simp at h⟩
  | cons o l ih =>
    intro s s' h
    simp only [opsA] at h
    have fin : ∀ (v : V) (s1 : S), StepA cfg call o s v s1 → opsA cfg call true l s1 = some s' → ∃ (vs : Nat → V) (st : Nat → S), st 0 = s ∧ st (o :: l).length = s' ∧ ∀ (k : Nat) (q : OpA), (o :: l)[k]? = some q → StepA cfg call q (st k) (vs k) (st (k + 1)) := by
      intro v s1 h1 h2
      obtain ⟨vs, st, e0, e1, e2⟩ := ih s1 s' h2
      refine ⟨fun k => match k with | 0 => v | k + 1 => vs k, fun k => match k with | 0 => s | k + 1 => st k, rfl, e1, fun k q hq => ?_⟩
      cases k with
      | zero => simp at hq; subst hq; simpa [e0] using h1
      | succ k => exact e2 k q (by simpa using hq)
    cases hw : wantedA s.env o.guard with
    | none => simp [hw] at h
    | some b =>
      cases b
      · simp [hw] at h
        exact fin (.tup []) ⟨setO s.env o.dst (.tup []), s.mem⟩ (.inr ⟨hw, rfl, rfl, rfl⟩) h
      · simp only [hw, Option.bind_some, if_true] at h
        cases ho : opX cfg call (drO true o) o s.env s.mem with
        | none => simp [ho] at h
        | some r =>
          obtain ⟨v, m⟩ := r
          simp only [ho, Option.bind_some] at h
          exact fin v _ (.inl ⟨hw, ho, rfl⟩) h
theorem evalO_congr {e1 e2 : List V} {x : Operand} (h : ∀ t, x = .tmp t → e1[t]? = e2[t]?) : evalO e1 x = evalO e2 x := by
  cases x <;> simp [evalO]
  exact h _ rfl
theorem evalL_congr {e1 e2 : List V} {l : List Operand} (h : ∀ x ∈ l, evalO e1 x = evalO e2 x) : mapO (evalO e1) l = mapO (evalO e2) l := by
  induction l with
  | nil => rfl
  | cons x l ih => simp only [mapO]; rw [h x (by simp), ih fun y hy => h y (by simp [hy])]
theorem parts_congr {e1 e2 : List V} {l : List (Nat × Operand)} (h : ∀ p ∈ l, evalO e1 p.2 = evalO e2 p.2) : mapO (partO e1) l = mapO (partO e2) l := by
  induction l with
  | nil => rfl
  | cons x l ih => simp only [mapO, partO]; rw [h x (by simp), ih fun y hy => h y (by simp [hy])]
theorem opA_congr {cfg : Cfg} {call : CallF} {dr : Bool} {o : OpA} {e1 e2 : List V} (h : ∀ x ∈ o.op.operands, evalO e1 x = evalO e2 x) (m : List O) : opA cfg call dr o e1 m = opA cfg call dr o e2 m := by
  have om : ∀ (x : Option Operand), (∀ y, x = some y → evalO e1 y = evalO e2 y) → x.map (evalO e1) = x.map (evalO e2) := by
    intro x hx
    cases x with
    | none => rfl
    | some y => simp [hx y rfl]
  simp only [opA]
  cases hop : o.op <;> simp only [hop, Op.operands, Call.operands] at h ⊢
  case build t ps =>
    rw [parts_congr (e1 := e1) (e2 := e2) fun p hp => h p.2 (by simp; exact ⟨p.1, by simpa using hp⟩)]
  case buildSlice t n ps =>
    rw [parts_congr (e1 := e1) (e2 := e2) fun p hp => h p.2 (by simp; exact ⟨p.1, by simpa using hp⟩)]
  case makeFunc fn first caps =>
    cases fn <;> simp only
    rw [evalL_congr (e1 := e1) (e2 := e2) fun x hx => h x (by simp; exact .inr (by simpa using hx))]
  case slice t x lo hi mx =>
    rw [h x (by simp), om lo fun y hy => h y (by simp [hy]), om hi fun y hy => h y (by simp [hy]), om mx fun y hy => h y (by simp [hy])]
  case call c =>
    cases hc : c.callee <;> simp only [hc] at h ⊢
    · rename_i f
      rw [h f (by simp), evalL_congr (e1 := e1) (e2 := e2) fun x hx => h x (by simp; exact .inr (by simpa using hx))]
    · rw [evalL_congr (e1 := e1) (e2 := e2) fun x hx => h x (by simpa using hx)]
  case makeMap t r => cases r <;> simp
  all_goals first
    | rfl
    | (simp at h; simp [h]; done)
    | (simp at h; obtain ⟨h1, h2⟩ := h; rw [h1, h2])
    | (simp at h; obtain ⟨h1, h2, h3⟩ := h; rw [h1, h2, h3])
    | (simp at h; rw [h])
theorem neutral1' {cfg : Cfg} {call : CallF} {o : OpA} {env : List V} {v : V} (hw : writesM o.op = false) (hcb : isCV o.op = true → o.bx = false) (h : opA cfg call true o env mem = some (v, mem')) : mem' = mem := by
  simp only [opA] at h
  cases hop : o.op <;> simp only [hop, writesM] at h hw <;> first | (cases h; done) | (cases hw; done) | skip
  case assign x =>
    cases hx : evalO env x with
    | none => simp [hx] at h
    | some a =>
      simp only [hx, Option.bind_some] at h
      cases a <;> simp at h <;> exact h.2.symm
  case load t a =>
    simp only [Option.bind_eq_some_iff] at h
    obtain ⟨p, _, h⟩ := h
    split at h
    · cases h
    · simp only [Option.map_eq_some_iff] at h
      obtain ⟨_, _, h⟩ := h
      cases h; rfl
  case nilCheck x =>
    simp only [Option.bind_eq_some_iff] at h
    obtain ⟨p, _, h⟩ := h
    split at h
    · cases h; rfl
    · cases h
  case pick c a b =>
    cases hc : evalO env c with
    | none => simp [hc] at h
    | some vc =>
      cases ha : evalO env a with
      | none => simp [hc, ha] at h
      | some va =>
        cases hb : evalO env b with
        | none => simp [hc, ha, hb] at h
        | some vb =>
          simp only [hc, ha, hb, Option.bind_some] at h
          cases vc <;> simp at h
          exact h.2.symm
  case makeFunc fn first caps =>
    cases fn <;> simp only at h <;> first | (cases h; done) | skip
    split at h
    · simp only [Option.map_eq_some_iff] at h
      obtain ⟨_, _, h⟩ := h
      cases h; rfl
    · cases h
  case field st x f =>
    cases hx : evalO env x with
    | none => simp [hx] at h
    | some p =>
      simp only [hx, Option.bind_some] at h
      cases p <;> simp only at h <;> first | (cases h; done) | skip
      simp only [Option.bind_eq_some_iff, Option.map_eq_some_iff] at h
      obtain ⟨_, _, _, _, h⟩ := h
      cases h; rfl
  case extract t i =>
    cases hx : evalO env t with
    | none => simp [hx] at h
    | some p =>
      simp only [hx, Option.bind_some] at h
      cases p <;> simp only at h <;> first | (cases h; done) | skip
      simp only [Option.map_eq_some_iff] at h
      obtain ⟨_, _, h⟩ := h
      cases h; rfl
  case lookup t m k ok =>
    cases hx : evalO env m with
    | none => simp [hx] at h
    | some p =>
      cases hy : evalO env k with
      | none => simp [hx, hy] at h
      | some q =>
        simp only [hx, hy, Option.bind_some] at h
        simp only [Option.bind_eq_some_iff] at h
        obtain ⟨_, _, h⟩ := h
        split at h
        · simp only [Option.bind_eq_some_iff, Option.map_eq_some_iff] at h
          obtain ⟨_, _, _, _, _, _, h⟩ := h
          cases h; rfl
        · cases h
  case call c =>
    cases hc : c.callee <;> simp only [hc] at h hw <;> first | (cases h; done) | skip
    case builtin b =>
      simp only [Option.bind_eq_some_iff] at h
      obtain ⟨args, _, h⟩ := h
      split at h
      · cases h
      cases b <;> simp at hw <;> simp only [builtinA] at h
      · unfold lenB at h
        split at h
        · simp only [Option.map_eq_some_iff] at h
          obtain ⟨_, _, h⟩ := h
          cases h; rfl
        · cases h
      · cases args <;> simp only [foldB] at h
        · cases h
        · simp only [Option.map_eq_some_iff] at h
          obtain ⟨_, _, h⟩ := h
          cases h; rfl
      · cases args <;> simp only [foldB] at h
        · cases h
        · simp only [Option.map_eq_some_iff] at h
          obtain ⟨_, _, h⟩ := h
          cases h; rfl
    case value f =>
      simp only [Option.bind_eq_some_iff] at h
      obtain ⟨fv, _, args, _, h⟩ := h
      cases fv <;> simp only at h <;> first | (cases h; done) | skip
      rw [hcb (by simp [hop, isCV, hc])] at h
      simp only [Bool.false_and, Bool.false_eq_true, if_false] at h
      unfold callA at h
      split at h
      · cases h
      · split at h
        · simp only [Option.bind_eq_some_iff] at h
          obtain ⟨as, _, r, _, h⟩ := h
          have tk : ∀ (ad : Bool), (takeT (ad && !true) mem r).2 = mem := by
            intro ad
            simp only [Bool.not_true, Bool.and_false]
            cases r <;> first | rfl | exact take1_false _ _
          split at h
          · split at h
            · cases h
            · rename_i hz
              simp only [Bool.true_and, Bool.not_eq_true, Bool.not_eq_false', List.isEmpty_iff] at hz
              rw [hz] at h
              simp only [freezeAll] at h
              injection h with h
              have := congrArg Prod.snd h
              rw [tk] at this
              exact this.symm
          · injection h with h
            have := congrArg Prod.snd h
            rw [tk] at this
            exact this.symm
        · cases h
  case slice t x lo hi mx =>
    simp only [Option.bind_eq_some_iff] at h
    obtain ⟨_, _, h⟩ := h
    split at h
    · cases h
    · simp only [Option.map_eq_some_iff] at h
      obtain ⟨_, _, h⟩ := h
      cases h; rfl
  case indexAddr t x i =>
    simp only [Option.bind_eq_some_iff] at h
    obtain ⟨_, _, _, _, h⟩ := h
    split at h
    · cases h
    · simp only [Option.map_eq_some_iff] at h
      obtain ⟨_, _, h⟩ := h
      cases h; rfl
  all_goals
    (simp only [Option.bind_eq_some_iff, Option.map_eq_some_iff] at h
     first
     | (obtain ⟨_, _, h⟩ := h; cases h; rfl)
     | (obtain ⟨_, _, _, _, h⟩ := h; cases h; rfl)
     | (obtain ⟨_, _, _, _, _, _, h⟩ := h; cases h; rfl))
theorem wrA_no {o : OpA} (hx : o.rx = false) (h : wrA o = false) : drO true o = true ∧ (isCV o.op = true → o.bx = false) ∧ (writesM o.op = false ∨ ((isBS o.op = true ∨ isApp o.op = true ∨ isAl o.op = true) ∧ o.bx = true)) := by
  unfold wrA at h
  rw [hx, Bool.not_false, Bool.true_and, Bool.or_eq_false_iff] at h
  refine ⟨by unfold drO; rw [h.2]; rfl, fun hc => by have := h.2; rw [hc] at this; simpa using (Bool.or_eq_false_iff.1 (by simpa using this)).2, ?_⟩
  cases hw : writesM o.op
  · exact .inl rfl
  · have := h.1
    rw [hw] at this
    simp only [Bool.true_and, Bool.not_eq_false', Bool.and_eq_true, Bool.or_eq_true] at this
    exact .inr ⟨or_assoc.1 this.2, this.1⟩
theorem opX_rx {cfg : Cfg} {call : CallF} {dr : Bool} {o : OpA} {env : List V} {v : V} (hx : o.rx = true) (h : opX cfg call dr o env mem = some (v, mem')) : mem' = mem ∧ ∀ m2, opX cfg call dr o env m2 = some (v, m2) := by
  unfold opX at h ⊢
  rw [if_pos hx] at h
  simp only [Option.bind_eq_some_iff] at h
  obtain ⟨⟨v1, m1⟩, h1, h2⟩ := h
  cases m1 with
  | cons _ _ =>
    simp only [Option.map_eq_some_iff] at h2
    obtain ⟨v2, h3, h2⟩ := h2
    cases h2
    exact ⟨rfl, fun m2 => by rw [if_pos hx, h1]; simp only [Option.bind_some, h3, Option.map_some]⟩
  | nil =>
    cases h2
    exact ⟨rfl, fun m2 => by rw [if_pos hx, h1]; rfl⟩
theorem opX_no {cfg : Cfg} {call : CallF} {dr : Bool} {o : OpA} {env : List V} (hx : o.rx = false) (m : List O) : opX cfg call dr o env m = opA cfg call dr o env m := by
  unfold opX; rw [if_neg (by rw [hx]; simp)]
theorem opX_congr {cfg : Cfg} {call : CallF} {dr : Bool} {o : OpA} {e1 e2 : List V} (h : ∀ x ∈ o.op.operands, evalO e1 x = evalO e2 x) (m : List O) : opX cfg call dr o e1 m = opX cfg call dr o e2 m := by
  unfold opX
  rw [opA_congr h m]
  rw [opA_congr (e1 := memless e1) (e2 := memless e2) (fun x hx => ?_) []]
  have := h x hx
  cases x with
  | tmp t => simp only [evalO, memless, List.getElem?_map] at this ⊢; rw [this]
  | _ => rfl
theorem bs_neutral {cfg : Cfg} {call : CallF} {dr : Bool} {o : OpA} {env : List V} {v : V} (hb : isBS o.op = true) (hx : o.bx = true) (h : opA cfg call dr o env mem = some (v, mem')) : mem' = mem ∧ ∀ m2, opA cfg call dr o env m2 = some (v, m2) := by
  simp only [opA, hx] at h ⊢
  cases hop : o.op <;> simp only [hop, isBS] at h hb ⊢ <;> first | (cases hb; done) | skip
  simp only [Option.bind_eq_some_iff] at h ⊢
  obtain ⟨a, ha, b, hb', c, hc, h⟩ := h
  split at h
  · rename_i hif
    change some (V.lit b c, mem) = _ at h
    simp only [Option.some.injEq, Prod.mk.injEq] at h
    obtain ⟨rfl, rfl⟩ := h
    exact ⟨rfl, fun m2 => ⟨a, ha, b, hb', c, hc, by rw [if_pos hif]; rfl⟩⟩
  · cases h
theorem al_neutral {cfg : Cfg} {call : CallF} {dr : Bool} {o : OpA} {env : List V} {v : V} (hb : isAl o.op = true) (hx : o.bx = true) (h : opA cfg call dr o env mem = some (v, mem')) : mem' = mem ∧ ∀ m2, opA cfg call dr o env m2 = some (v, m2) := by
  simp only [opA, hx] at h ⊢
  cases hop : o.op <;> simp only [hop, isAl] at h hb ⊢ <;> first | (cases hb; done) | skip
  simp only [Option.bind_eq_some_iff] at h ⊢
  obtain ⟨a, ha, h⟩ := h
  split at h
  · rename_i hif
    simp only [if_true, Option.some.injEq, Prod.mk.injEq] at h
    obtain ⟨rfl, rfl⟩ := h
    exact ⟨rfl, fun m2 => ⟨a, ha, by rw [if_pos hif]; rfl⟩⟩
  · cases h
theorem noMem_elems {x : V} (h : noMem x = true) (m m2 : List O) : elems m x = elems m2 x := by
  cases x <;> first | rfl | (cases h; done)
theorem noMem_elemsS {x : V} (h : noMem x = true) (m m2 : List O) : elemsS m x = elemsS m2 x := by
  cases x <;> first | rfl | (cases h; done)
theorem noMem_slice {P : Program} {x : V} (h : noMem x = true) (m m2 : List O) (t : TypeId) (lo hi mx : Option (Option V)) : sliceA P m t x lo hi mx = sliceA P m2 t x lo hi mx := by
  unfold sliceA
  cases P.underlying t with
  | none => cases x <;> rfl
  | some d => cases x <;> first | (cases h; done) | (cases d <;> rfl)
theorem noMem_index {P : Program} {x : V} (h : noMem x = true) (m m2 : List O) (t : TypeId) (i : V) : indexAddrA P m t x i = indexAddrA P m2 t x i := by
  cases x <;> first | rfl | (cases h; done)
theorem noMem_len {P : Program} {x : V} (h : noMem x = true) (m m2 : List O) (t : TypeId) : lenA P m t x = lenA P m2 t x := by
  unfold lenA
  cases P.underlying t with
  | none => cases x <;> rfl
  | some d => cases x <;> first | (cases h; done) | (cases d <;> rfl)
theorem bx_free {cfg : Cfg} {call : CallF} {dr : Bool} {o : OpA} {env : List V} {v : V} (hb : bxi o.op = true) (hx : o.bx = true) (h : opA cfg call dr o env mem = some (v, mem')) : mem' = mem ∧ ∀ m2, opA cfg call dr o env m2 = some (v, m2) := by
  simp only [opA, hx] at h ⊢
  cases hop : o.op <;> simp only [hop, bxi] at h hb ⊢ <;> first | (cases hb; done) | skip
  case slice t x lo hi mx =>
    simp only [Option.bind_eq_some_iff] at h ⊢
    obtain ⟨a, ha, h⟩ := h
    split at h
    · cases h
    · rename_i hn
      simp only [Bool.true_and, Bool.not_eq_true', Bool.not_eq_false] at hn
      simp only [Option.map_eq_some_iff] at h
      obtain ⟨r, hr, h⟩ := h
      cases h
      exact ⟨rfl, fun m2 => ⟨a, ha, by rw [hn]; simp only [Bool.true_and, Bool.not_true, Bool.false_eq_true, if_false]; rw [noMem_slice hn m2 mem, hr]; rfl⟩⟩
  case indexAddr t x i =>
    simp only [Option.bind_eq_some_iff] at h ⊢
    obtain ⟨a, ha, b, hb', h⟩ := h
    split at h
    · cases h
    · rename_i hn
      simp only [Bool.true_and, Bool.not_eq_true', Bool.not_eq_false] at hn
      simp only [Option.map_eq_some_iff] at h
      obtain ⟨r, hr, h⟩ := h
      cases h
      exact ⟨rfl, fun m2 => ⟨a, ha, b, hb', by rw [hn]; simp only [Bool.true_and, Bool.not_true, Bool.false_eq_true, if_false]; rw [noMem_index hn m2 mem, hr]; rfl⟩⟩
  case call c =>
    cases hc : c.callee <;> simp only [hc] at h hb ⊢ <;> first | (cases hb; done) | skip
    rename_i b
    simp only [Option.bind_eq_some_iff] at h ⊢
    obtain ⟨args, ha, h⟩ := h
    split at h
    · cases h
    rename_i hn
    simp only [Bool.true_and, Bool.not_eq_true', Bool.not_eq_false] at hn
    have goal : ∀ m2, (if (true && !bxArgs b args) = true then none else builtinA cfg.P b m2 c.argTypes.toList args) = builtinA cfg.P b m2 c.argTypes.toList args := by
      intro m2; rw [hn]; rfl
    have fin : (mem' = mem ∧ ∀ m2, builtinA cfg.P b m2 c.argTypes.toList args = some (v, m2)) → mem' = mem ∧ ∀ m2, ∃ a, mapO (evalO env) c.args.toList = some a ∧ (if (true && !bxArgs b a) = true then none else builtinA cfg.P b m2 c.argTypes.toList a) = some (v, m2) :=
      fun ⟨q1, q2⟩ => ⟨q1, fun m2 => ⟨args, ha, (goal m2).trans (q2 m2)⟩⟩
    refine fin ?_
    clear fin goal
    cases b <;> simp at hb
    · -- append
      simp only [builtinA] at h ⊢
      unfold appendB at h ⊢
      split at h
      · rename_i t t' s x hts
        simp only [bxArgs, Bool.and_eq_true] at hn
        split at h
        · rename_i htt
          have key : mem' = mem ∧ ∀ m2, appendM cfg.P m2 t s x = some (v, m2) := by
            cases s <;> first | (cases hn.1; done) | skip
            unfold appendM at h ⊢
            simp only [Option.bind_eq_some_iff] at h ⊢
            obtain ⟨e, he, xs, hxs, h⟩ := h
            split at h
            · rename_i hall
              split at h
              · rename_i hcc
                cases h
                exact ⟨rfl, fun m2 => ⟨e, he, xs, (noMem_elemsS hn.2 m2 mem).trans hxs, by rw [if_pos hall, if_pos hcc]⟩⟩
              · cases h
            · cases h
          exact ⟨key.1, fun m2 => by rw [if_pos htt]; exact key.2 m2⟩
        · cases h
      · cases h
    · -- len
      simp only [builtinA] at h ⊢
      unfold lenB at h ⊢
      split at h
      · rename_i t _ x _ hts
        simp only [bxArgs] at hn
        simp only [Option.map_eq_some_iff] at h
        obtain ⟨r, hr, h⟩ := h
        cases h
        exact ⟨rfl, fun m2 => by rw [noMem_len hn m2 mem, hr]; rfl⟩
      · cases h
theorem app_bxi {o : Op} (h : isApp o = true) : bxi o = true := by
  cases o <;> simp only [isApp] at h <;> first | (cases h; done) | skip
  simp only [bxi]
  split at h
  · rename_i hc; rw [hc]
  · cases h
theorem neutral1 {cfg : Cfg} {call : CallF} {o : OpA} {env : List V} {v : V} (hw : wrA o = false) (h : opX cfg call (drO true o) o env mem = some (v, mem')) : mem' = mem := by
  cases hrx : o.rx
  rotate_left
  · exact (opX_rx hrx h).1
  rw [opX_no hrx] at h
  obtain ⟨hd, hcb, hw | ⟨hb | hb | hb, hx⟩⟩ := wrA_no hrx hw
  · rw [hd] at h; exact neutral1' hw hcb h
  · exact (bs_neutral hb hx h).1
  · exact (bx_free (app_bxi hb) hx h).1
  · exact (al_neutral hb hx h).1
theorem neutral2' {cfg : Cfg} {call : CallF} {o : OpA} {env : List V} {v : V} (hw : writesM o.op = false) (hr : readsM o.op = false) (h : opA cfg call true o env mem = some (v, mem')) (m2 : List O) : opA cfg call true o env m2 = some (v, m2) := by
  simp only [opA] at h ⊢
  cases hop : o.op <;> simp only [hop, writesM, readsM] at h hw hr ⊢ <;> first | (cases h; done) | (cases hw; done) | (cases hr; done) | skip
  case assign x =>
    cases hx : evalO env x with
    | none => simp [hx] at h
    | some a =>
      simp only [hx, Option.bind_some] at h ⊢
      cases a <;> simp at h ⊢ <;> exact h.1
  case nilCheck x =>
    simp only [Option.bind_eq_some_iff] at h ⊢
    obtain ⟨p, hp, h⟩ := h
    split at h
    · rename_i hs
      cases h
      exact ⟨_, hp, by rw [if_pos hs]⟩
    · cases h
  case pick c a b =>
    cases hc : evalO env c with
    | none => simp [hc] at h
    | some vc =>
      cases ha : evalO env a with
      | none => simp [hc, ha] at h
      | some va =>
        cases hb : evalO env b with
        | none => simp [hc, ha, hb] at h
        | some vb =>
          simp only [hc, ha, hb, Option.bind_some] at h ⊢
          cases vc <;> simp at h ⊢
          exact h.1
  case makeFunc fn first caps =>
    cases fn <;> simp only at h ⊢ <;> first | (cases h; done) | skip
    split at h
    · rename_i hc
      rw [if_pos hc]
      simp only [Option.map_eq_some_iff] at h ⊢
      obtain ⟨x, hx, h⟩ := h
      cases h
      exact ⟨x, hx, rfl⟩
    · cases h
  case field st x f =>
    cases hx : evalO env x with
    | none => simp [hx] at h
    | some p =>
      simp only [hx, Option.bind_some] at h ⊢
      cases p <;> simp only at h ⊢ <;> first | (cases h; done) | skip
      simp only [Option.bind_eq_some_iff, Option.map_eq_some_iff] at h ⊢
      obtain ⟨a, ha, b, hb, h⟩ := h
      cases h
      exact ⟨_, ha, _, hb, rfl⟩
  case extract t i =>
    cases hx : evalO env t with
    | none => simp [hx] at h
    | some p =>
      simp only [hx, Option.bind_some] at h ⊢
      cases p <;> simp only at h ⊢ <;> first | (cases h; done) | skip
      simp only [Option.map_eq_some_iff] at h ⊢
      obtain ⟨a, ha, h⟩ := h
      cases h
      exact ⟨_, ha, rfl⟩
  case call c =>
    cases hc : c.callee <;> simp only [hc] at h hw hr ⊢ <;> first | (cases h; done) | (cases hr; done) | skip
    rename_i b
    simp only [Option.bind_eq_some_iff] at h ⊢
    obtain ⟨args, ha, h⟩ := h
    refine ⟨args, ha, ?_⟩
    split at h
    · cases h
    rename_i hn
    rw [if_neg hn]
    cases b <;> simp at hw hr <;> simp only [builtinA] at h ⊢
    · cases args <;> simp only [foldB] at h ⊢
      · cases h
      · simp only [Option.map_eq_some_iff] at h ⊢
        obtain ⟨q, hq, h⟩ := h
        cases h; exact ⟨_, hq, rfl⟩
    · cases args <;> simp only [foldB] at h ⊢
      · cases h
      · simp only [Option.map_eq_some_iff] at h ⊢
        obtain ⟨q, hq, h⟩ := h
        cases h; exact ⟨_, hq, rfl⟩
  all_goals
    (simp only [Option.bind_eq_some_iff, Option.map_eq_some_iff] at h ⊢
     first
     | (obtain ⟨a, ha, h⟩ := h; cases h; exact ⟨_, ha, rfl⟩)
     | (obtain ⟨a, ha, b, hb, h⟩ := h; cases h; exact ⟨_, ha, _, hb, rfl⟩)
     | (obtain ⟨a, ha, b, hb, c, hc, h⟩ := h; cases h; exact ⟨_, ha, _, hb, _, hc, rfl⟩))
theorem neutral2 {cfg : Cfg} {call : CallF} {o : OpA} {env : List V} {v : V} (hw : wrA o = false) (hr : rdA o = false) (h : opX cfg call (drO true o) o env mem = some (v, mem')) (m2 : List O) : opX cfg call (drO true o) o env m2 = some (v, m2) := by
  cases hrx : o.rx
  rotate_left
  · exact (opX_rx hrx h).2 m2
  rw [opX_no hrx] at h ⊢
  unfold rdA at hr
  rw [hrx, Bool.not_false, Bool.true_and] at hr
  obtain ⟨hd, _, hw | ⟨hb | hb | hb, hx⟩⟩ := wrA_no hrx hw
  · cases hrm : readsM o.op with
    | false => rw [hd] at h ⊢; exact neutral2' hw hrm h m2
    | true =>
      rw [hrm] at hr
      simp only [Bool.true_and, Bool.not_eq_false', Bool.and_eq_true] at hr
      exact (bx_free hr.2 hr.1 h).2 m2
  · exact (bs_neutral hb hx h).2 m2
  · exact (bx_free (app_bxi hb) hx h).2 m2
  · exact (al_neutral hb hx h).2 m2
def Boxes (m m' : List O) : Prop := m.length ≤ m'.length ∧ ∀ id, id < m.length → ∀ t x, ((∃ fz, m'[id]? = some (.box t x fz)) ↔ ∃ fz, m[id]? = some (.box t x fz))
theorem Boxes.refl (m : List O) : Boxes m m := ⟨Nat.le_refl _, fun _ _ _ _ => Iff.rfl⟩
theorem Boxes.trans {a b c : List O} (h : Boxes a b) (h' : Boxes b c) : Boxes a c :=
  ⟨Nat.le_trans h.1 h'.1, fun id hi t x => (h'.2 id (Nat.lt_of_lt_of_le hi h.1) t x).trans (h.2 id hi t x)⟩
theorem Boxes.push (m : List O) (q : O) : Boxes m (m ++ [q]) := ⟨by simp, fun id hi t x => by rw [List.getElem?_append_left hi]⟩
theorem Boxes.kill {m : List O} {i : Nat} {t : TypeId} {els : List V} {fz : Nat} (h : m[i]? = some (.row t els fz)) (q : O) : Boxes m (m.set i .dead ++ [q]) := by
  refine ⟨by simp, fun id hi t x => ?_⟩
  rw [List.getElem?_append_left (by simpa using hi)]
  by_cases e : i = id
  · subst e
    rw [List.getElem?_set_self hi, h]
    constructor <;> rintro ⟨_, h⟩ <;> cases h
  · rw [List.getElem?_set_ne e]
theorem Boxes.freeze (m : List O) (i : Nat) : Boxes m (freeze m i) := by
  unfold Lite.freeze
  split
  · rename_i t els fz h
    refine ⟨by simp, fun id hi t x => ?_⟩
    by_cases e : i = id
    · subst e
      rw [List.getElem?_set_self hi, h]
      constructor <;> rintro ⟨_, h⟩ <;> cases h
    · rw [List.getElem?_set_ne e]
  · rename_i t v fz h
    refine ⟨by simp, fun id hi t' x => ?_⟩
    by_cases e : i = id
    · subst e
      rw [List.getElem?_set_self hi, h]
      constructor
      · rintro ⟨_, h⟩; cases h; exact ⟨_, rfl⟩
      · rintro ⟨_, h⟩; cases h; exact ⟨_, rfl⟩
    · rw [List.getElem?_set_ne e]
  · exact .refl _
theorem Boxes.freezeAll : ∀ (is : List Nat) (m : List O), Boxes m (freezeAll is m)
  | [], m => .refl m
  | i :: is, m => (Boxes.freeze m i).trans (Boxes.freezeAll is _)
theorem Boxes.take (ad : Bool) (m : List O) (r : V) : Boxes m (takeT ad m r).2 := by
  have h1 : Boxes m (take1 ad m r).2 := by
    cases r <;> simp only [take1] <;> first | exact .refl _ | skip
    split
    · exact .push _ _
    · exact .refl _
  cases r <;> first | exact .refl _ | exact h1
theorem Boxes.boxed (P : Program) : ∀ (ts : List TypeId) (vs : List V) (m : List O), Boxes m (boxed P ts vs m).2 := by
  intro ts
  induction ts with
  | nil => intro vs m; cases vs <;> exact .refl _
  | cons t ts ih =>
    intro vs m
    cases vs with
    | nil => exact .refl _
    | cons v vs =>
      cases v <;> first | exact ih vs m | skip
      simp only [Lite.boxed]
      split
      · split
        · exact (Boxes.push _ _).trans (ih vs _)
        · exact ih vs m
      · exact ih vs m
theorem Boxes.newBox (P : Program) (m : List O) (t : TypeId) (v : V) : Boxes m (newBox P m t v).2 := by
  have : Boxes m (boxVal P m t v).2 := by
    unfold boxVal
    split
    · exact Boxes.boxed P _ _ m
    · have := Boxes.boxed P (cellTys P t) [v] m
      split
      · rename_i h; rw [h] at this; exact this
      · exact .refl _
  exact this.trans (.push _ _)
theorem noA.boxed {P : Program} {q : TypeId} : ∀ (ts : List TypeId) (vs : List V) (m : List O), noA q m → noA q (boxed P ts vs m).2 := by
  intro ts
  induction ts with
  | nil => intro vs m h; cases vs <;> exact h
  | cons t ts ih =>
    intro vs m h
    cases vs with
    | nil => exact h
    | cons v vs =>
      cases v <;> first | exact ih vs m h | skip
      simp only [Lite.boxed]
      split
      · split
        · exact ih vs _ (h.add rfl)
        · exact ih vs m h
      · exact ih vs m h
theorem noA.newBox {P : Program} {q : TypeId} {m : List O} (t : TypeId) (v : V) (h : noA q m) : noA q (newBox P m t v).2 := by
  have : noA q (boxVal P m t v).2 := by
    unfold boxVal
    split
    · exact noA.boxed _ _ m h
    · have := noA.boxed (P := P) (cellTys P t) [v] m h
      split
      · rename_i h; rw [h] at this; exact this
      · exact h
  exact this.add rfl
theorem push_keep {cfg : Cfg} {call : CallF} {o : OpA} {env : List V} {v : V} (hp : pushA o = true) (hfr : frx cfg o = false) (h : opX cfg call (drO true o) o env mem = some (v, mem')) : Boxes mem mem' := by
  unfold pushA at hp
  rw [Bool.and_eq_true] at hp
  have hrx : o.rx = false := by simpa using hp.1
  rw [opX_no hrx] at h
  have hp := hp.2
  have hns : (isSt o.op && o.bx) = false := by
    unfold frx at hfr
    rw [hrx] at hfr
    simp only [Bool.not_false, Bool.true_and, Bool.or_eq_false_iff] at hfr
    rw [Bool.and_comm]; exact hfr.2
  rw [hns, Bool.or_false] at hp
  simp only [opA] at h
  cases hop : o.op <;> simp only [hop, pusher, isCV] at h hp <;> first | (cases hp; done) | skip
  case alloc t =>
    simp only [Option.bind_eq_some_iff] at h
    obtain ⟨z, _, h⟩ := h
    split at h
    · split at h
      · cases h; exact .refl _
      · split at h
        · cases h
        · rename_i hna
          have hd : drO true o = true := by simp [drO, isCV, hop]
          rw [hd, Bool.true_and] at hna
          unfold newBoxA at h
          cases hf : findA t 0 mem with
          | none => rw [hf] at h; cases h; exact .newBox _ _ _ _
          | some r => rw [hf] at hna; simp at hna
    · cases h
  case box t x =>
    simp only [Option.bind_eq_some_iff] at h
    obtain ⟨z, _, h⟩ := h
    split at h
    · cases h
    split at h
    · split at h
      · cases h
      · rename_i hna
        have hd : drO true o = true := by simp [drO, isCV, hop]
        rw [hd, Bool.true_and] at hna
        unfold newBoxA at h
        cases hf : findA t 0 mem with
        | none => rw [hf] at h; cases h; exact .newBox _ _ _ _
        | some r => rw [hf] at hna; simp at hna
    · cases h
  case buildSlice t n ps =>
    simp only [Option.bind_eq_some_iff] at h
    obtain ⟨_, _, _, _, _, _, h⟩ := h
    split at h
    · split at h
      · cases h; exact .refl _
      · cases h; exact .push _ _
    · cases h
  case makeSlice t n c =>
    simp only [Option.bind_eq_some_iff] at h
    obtain ⟨_, _, _, _, h⟩ := h
    unfold makeM at h
    simp only [Option.bind_eq_some_iff] at h
    obtain ⟨_, _, h⟩ := h
    split at h
    · split at h
      · simp only [Option.bind_eq_some_iff, Option.map_eq_some_iff] at h
        obtain ⟨_, _, _, _, h⟩ := h
        cases h; exact .push _ _
      · cases h
    · cases h
  case call c =>
    cases hc : c.callee <;> simp only [hc] at h hp <;> first | (cases hp; done) | skip
    case builtin b =>
      cases b <;> simp only at h hp <;> first | (cases hp; done) | skip
      simp only [Option.bind_eq_some_iff] at h
      obtain ⟨args, _, h⟩ := h
      split at h
      · cases h
      simp only [builtinA] at h
      unfold appendB at h
      split at h
      · split at h
        · unfold appendM at h
          simp only [Option.bind_eq_some_iff] at h
          obtain ⟨_, _, _, _, h⟩ := h
          split at h
          · split at h
            · split at h
              · cases h; exact .push _ _
              · cases h
            · split at h
              · rename_i hm
                split at h
                · cases h; exact .kill hm _
                · cases h
              · cases h
            · split at h
              · rename_i hm
                split at h
                · cases h; exact .kill hm _
                · cases h
              · cases h
            · split at h
              · rename_i hm
                split at h
                · cases h; exact .kill hm _
                · cases h
              · cases h
            · split at h
              · cases h; exact .refl _
              · cases h
            · cases h
          · cases h
        · cases h
      · cases h
    case value f =>
      simp only [Bool.false_or, Bool.true_and, Bool.and_eq_true] at hp
      simp only [Option.bind_eq_some_iff] at h
      obtain ⟨fv, _, args, _, h⟩ := h
      cases fv <;> simp only at h <;> first | (cases h; done) | skip
      rw [hp.1] at h
      have hfo : frOp cfg o = false := by
        unfold frx at hfr
        rw [hrx] at hfr
        simp only [Bool.not_false, Bool.true_and, Bool.or_eq_false_iff] at hfr
        exact hfr.1
      rw [hfo] at h
      simp only [Bool.false_and, Bool.false_eq_true, if_false] at h
      split at h
      · cases h
      rename_i hpu
      unfold callA at h
      split at h
      · cases h
      · split at h
        · simp only [Option.bind_eq_some_iff] at h
          obtain ⟨as, _, r, _, h⟩ := h
          split at h
          · split at h
            · cases h
            · injection h with h
              have this : _ = mem' := congrArg Prod.snd h
              rw [← this]
              exact (Boxes.freezeAll _ _).trans (Boxes.take _ _ _)
          · injection h with h
            have this : _ = mem' := congrArg Prod.snd h
            rw [← this]
            exact Boxes.take _ _ _
        · rename_i hn
          simp at hpu
          exact (hn hpu).elim
def BoxP (p : V) (m m' : List O) : Prop := m.length ≤ m'.length ∧ ∀ id k off, p = .ptr id k off → id < m.length → ∀ t x, ((∃ fz, m'[id]? = some (.box t x fz)) ↔ ∃ fz, m[id]? = some (.box t x fz))
theorem Boxes.at {m m' : List O} (h : Boxes m m') (p : V) : BoxP p m m' := ⟨h.1, fun id _ _ _ hi t x => h.2 id hi t x⟩
theorem BoxP.refl (p : V) (m : List O) : BoxP p m m := (Boxes.refl m).at p
theorem BoxP.trans {p : V} {a b c : List O} (h : BoxP p a b) (h' : BoxP p b c) : BoxP p a c :=
  ⟨Nat.le_trans h.1 h'.1, fun id k off e hi t x => (h'.2 id k off e (Nat.lt_of_lt_of_le hi h.1) t x).trans (h.2 id k off e hi t x)⟩
theorem storeM_keep {P : Program} {t : TypeId} {p v : V} (hnp : isHp p = false) (h : storeM P mem t p v = some mem') : mem.length ≤ mem'.length ∧ ∀ id, id < mem.length → id ∉ ptrId p → mem'[id]? = mem[id]? := by
  unfold storeM at h
  split at h
  rotate_left
  · cases h
  cases p <;> simp only at h <;> first | (cases h; done) | (simp [isHp] at hnp; done) | skip
  rename_i i k off
  have key : ∀ q, mem' = mem.set i q → mem.length ≤ mem'.length ∧ ∀ id, id < mem.length → id ∉ ptrId (.ptr i k off) → mem'[id]? = mem[id]? := by
    rintro q rfl
    refine ⟨by simp, fun id _ hn => ?_⟩
    rw [List.getElem?_set_ne]
    intro e
    exact hn (by simp [ptrId, refs2, refs1, refs0, e])
  cases hm : mem[i]? with
  | none => simp [hm] at h
  | some o =>
    cases o <;> simp only [hm] at h <;> first | (cases h; done) | skip
    · split at h
      · simp only [Option.bind_eq_some_iff, Option.map_eq_some_iff] at h
        obtain ⟨_, _, _, _, _, _, h⟩ := h
        exact key _ h.symm
      · cases h
    · split at h
      · simp only [Option.map_eq_some_iff] at h
        obtain ⟨_, _, h⟩ := h
        exact key _ h.symm
      · cases h
theorem framed_keep {cfg : Cfg} {call : CallF} {o : OpA} {env : List V} {v : V} (hfr : frx cfg o = true) (h : opX cfg call (drO true o) o env mem = some (v, mem')) :
    mem.length ≤ mem'.length ∧ ∀ id, id < mem.length → id ∉ framesAt env o → mem'[id]? = mem[id]? := by
  unfold frx at hfr
  rw [Bool.and_eq_true] at hfr
  have hrx : o.rx = false := by simpa using hfr.1
  rw [opX_no hrx] at h
  have hfr := hfr.2
  by_cases hst : (o.bx && isSt o.op) = true
  · rw [Bool.and_eq_true] at hst
    simp only [opA] at h
    cases hop : o.op <;> simp only [hop, isSt] at h hst <;> first | (simp at hst; done) | skip
    rename_i t a x
    simp only [Option.bind_eq_some_iff] at h
    obtain ⟨p, hp, v', hv, h⟩ := h
    rw [hst.1, Bool.true_and] at h
    split at h
    · cases h
    rename_i hnp
    simp only [Option.map_eq_some_iff] at h
    obtain ⟨m, hm, h⟩ := h
    cases h
    have := storeM_keep (by simpa using hnp) hm
    simpa only [framesAt, hop, idsAt, hp] using this
  rw [Bool.or_eq_true] at hfr
  have hfr := hfr.resolve_right hst
  have hfr0 := hfr
  unfold frOp at hfr
  simp only [Bool.and_eq_true] at hfr
  obtain ⟨hbx, hfr⟩ := hfr
  simp only [opA] at h
  cases hop : o.op <;> simp only [hop] at h hfr <;> first | (cases hfr; done) | skip
  rename_i c
  cases hc : c.callee <;> simp only [hc] at h hfr <;> first | (cases hfr; done) | skip
  rename_i f
  cases f <;> simp only at h hfr <;> first | (cases hfr; done) | skip
  rename_i f
  simp only [Option.bind_eq_some_iff] at h
  obtain ⟨fv, hfv, args, ha, h⟩ := h
  simp only [evalO, Option.some.injEq] at hfv
  subst hfv
  simp only [hbx, hfr, hfr0, Bool.true_and, if_true, List.append_nil] at h
  split at h
  rotate_left
  · cases h
  have hS : framesAt env o = args.flatMap ptrId := by
    unfold framesAt
    simp only [hop]
    have : ∀ (l : List Operand) (as : List V), mapO (evalO env) l = some as → l.flatMap (idsAt env) = as.flatMap ptrId := by
      intro l
      induction l with
      | nil => intro as h; cases h; rfl
      | cons x l ih =>
        intro as h
        simp only [mapO, Option.bind_eq_some_iff, Option.map_eq_some_iff] at h
        obtain ⟨y, hy, ys, hys, rfl⟩ := h
        simp only [List.flatMap_cons, ih ys hys, idsAt, hy]
    exact this _ _ ha
  rw [hS]
  unfold framedA at h
  split at h
  · cases h
  simp only [Option.bind_eq_some_iff] at h
  obtain ⟨⟨v1, m1⟩, h1, h2⟩ := h
  split at h2
  rotate_left
  · cases h2
  rename_i hle
  cases h2
  obtain ⟨b1, b2⟩ := backFrom_get (args.flatMap ptrId) mem m1 0 hle
  refine ⟨by unfold putBack; rw [b1]; exact hle, fun id hi hn => ?_⟩
  unfold putBack
  rw [b2 id, if_pos hi, Nat.zero_add, if_neg]
  simpa using hn
theorem box_load {m m' : List O} {p : V} {t : TypeId} (hb : BoxP p m m') (hlt : ∀ id k off, p = .ptr id k off → id < m.length) : (boxy m' p = boxy m p) ∧ (boxy m p = true → loadM P m' t p = loadM P m t p) := by
  cases p
  case ptr id k off =>
    have hi := hlt id k off rfl
    have key := hb.2 id k off rfl hi
    cases hm : m[id]? with
    | none => rw [List.getElem?_eq_none_iff] at hm; omega
    | some o =>
      cases hm' : m'[id]? with
      | none => rw [List.getElem?_eq_none_iff] at hm'; have := hb.1; omega
      | some o' =>
        rw [hm, hm'] at key
        cases o with
        | box t0 x fz =>
          obtain ⟨fz', this⟩ := (key t0 x).2 ⟨fz, rfl⟩
          cases this
          exact ⟨by simp only [boxy, hm, hm'], fun _ => by simp only [loadM, look, hm, hm']⟩
        | _ =>
          cases o' with
          | box t0 x fz => obtain ⟨fz', this⟩ := (key t0 x).1 ⟨fz, rfl⟩; cases this
          | _ => exact ⟨by simp only [boxy, hm, hm'], fun h => by simp [boxy, hm] at h⟩
  case ref x off => exact ⟨rfl, fun _ => by simp only [loadM, look]⟩
  all_goals exact ⟨rfl, fun h => by simp [boxy] at h⟩
end
end Go.Lite