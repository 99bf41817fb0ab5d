/-
  Lists of operations: in the order of the text.
-/
import Derived.Test.YtgpgjojejdaibaaLite12
namespace Go.Lite
open Go Go.MapKept

section
variable {P : Program} {Z Z' : Zs} {w w' : World} {j j' : J} {mem mem' : List O}

structure St (Z : Zs) (w : World) (j : J) (env : List V) (a : Act) : Prop where
  len : a.tmps.size = env.length
  val : ∀ (i : Nat) (v : V), env[i]? = some v → ∃ u, a.tmps[i]? = some u ∧ VR Z w j v u
  defs : a.defers = []

theorem St.mono {env : List V} {a : Act} (s : St Z w j env a) (hz : ZExt Z w Z' w') (hj : JExt j j') : St Z' w' j' env a :=
  ⟨s.len, fun i v h => let ⟨u, h1, h2⟩ := s.val i v h; ⟨u, h1, h2.mono hz hj⟩, s.defs⟩

theorem St.eval {env : List V} {a : Act} (s : St Z w j env a) : ∀ x v, evalO env x = some v → VR Z w j v (a.eval x) := by
  intro x v h
  cases x with
  | tmp t =>
    simp only [evalO] at h
    obtain ⟨u, h1, h2⟩ := s.val t v h
    simp [Act.eval, h1, Array.getD_eq_getD_getElem?]
    exact h2
  | const c =>
    simp only [evalO] at h
    exact constV_sound h
  | global g => simp [evalO] at h
  | func f =>
    simp [evalO] at h
    subst h
    exact .fn (us := []) rfl fun i c u hc => by simp at hc

theorem St.put {env : List V} {a : Act} (s : St Z w j env a) (d : Option Nat) {v : V} {u : Value} (hv : VR Z w j v u) : St Z w j (setO env d v) (a.put d u) := by
  cases d with
  | none => exact s
  | some d =>
    refine ⟨by simp [setO, Act.put, s.len], fun i x hx => ?_, s.defs⟩
    simp only [setO, Act.put] at hx ⊢
    rw [Array.getElem?_setIfInBounds]
    by_cases e : d = i
    · subst e
      have hlt : d < env.length := by
        have := (List.getElem?_eq_some_iff.1 hx).1; simpa using this
      rw [List.getElem?_set_self hlt] at hx
      cases hx
      exact ⟨u, by rw [if_pos rfl, if_pos (by rw [s.len]; exact hlt)], hv⟩
    · rw [List.getElem?_set_ne e] at hx
      rw [if_neg e]
      exact s.val i x hx

/-- an operation of the text, as the interpreter has it -/
def PrepOf (ops : Array Oper) (o : Oper) (q : OpA) : Prop :=
  ∃ g bx sq rx, q = ⟨o.dst, o.op, o.type, g, bx, sq, rx⟩ ∧ ((o.guard = none ∧ g = none) ∨ ∃ k want d, o.guard = some (k, want) ∧ (ops[k]?).bind (·.dst) = some d ∧ g = some (d, want))
def Preps (ops : Array Oper) (opers : List Oper) (l : List OpA) : Prop :=
  l.length = opers.length ∧ ∀ (k : Nat) (o : Oper) (q : OpA), opers[k]? = some o → l[k]? = some q → PrepOf ops o q

theorem prep_guard {ops : Array Oper} {o : Oper} {q : OpA} (h : prepOp ops o = some q) : PrepOf ops o q := by
  unfold prepOp at h
  split at h
  · rename_i hg; cases h; exact ⟨none, _, _, _, rfl, .inl ⟨hg, rfl⟩⟩
  · rename_i k want hg
    cases hd : (ops[k]?).bind (·.dst) with
    | none => simp [hd] at h
    | some d => simp [hd] at h; subst h; exact ⟨_, _, _, _, rfl, .inr ⟨k, want, d, hg, hd, rfl⟩⟩
theorem preps_of {ops : Array Oper} {opers : List Oper} {l : List OpA} (h : mapO (prepOp ops) opers = some l) : Preps ops opers l := by
  obtain ⟨h1, h2⟩ := mapO_get h
  refine ⟨h1, fun k o q ho hq => ?_⟩
  obtain ⟨o', ho', hp⟩ := h2 k q hq
  rw [ho] at ho'
  cases ho'
  exact prep_guard hp
theorem flag_get : ∀ (l : List OpA) (fs : List (Bool × Bool × Bool)), (flagAll l fs).length = l.length ∧ ∀ (k : Nat) (q : OpA), (flagAll l fs)[k]? = some q → ∃ q0 bx sq rx, l[k]? = some q0 ∧ q = ⟨q0.dst, q0.op, q0.type, q0.guard, bx, sq, rx⟩
  | [], fs => ⟨by cases fs <;> rfl, fun k q h => by cases fs <;> simp [flagAll] at h⟩
  | q :: l, [] => ⟨rfl, fun k q h => ⟨q, q.bx, q.sq, q.rx, h, rfl⟩⟩
  | q :: l, x :: fs => by
    obtain ⟨h1, h2⟩ := flag_get l fs
    refine ⟨by simp [flagAll, h1], fun k p hp => ?_⟩
    cases k with
    | zero => simp [flagAll] at hp; exact ⟨q, x.1, x.2.1, x.2.2, rfl, hp.symm⟩
    | succ k => exact h2 k p (by simpa [flagAll] using hp)
theorem preps_flag {ops : Array Oper} {opers : List Oper} {l : List OpA} (h : Preps ops opers l) (fs : List (Bool × Bool × Bool)) : Preps ops opers (flagAll l fs) := by
  obtain ⟨h1, h2⟩ := flag_get l fs
  refine ⟨h1.trans h.1, fun k o q ho hq => ?_⟩
  obtain ⟨q0, bx, sq, rx, hq0, rfl⟩ := h2 k q hq
  obtain ⟨g, _, _, _, rfl, hg⟩ := h.2 k o q0 ho hq0
  exact ⟨g, bx, sq, rx, rfl, hg⟩

theorem wanted_sound {ops : Array Oper} {o : Oper} {q : OpA} {env : List V} {a : Act} {b : Bool} (h : PrepOf ops o q) (s : St Z w j env a) (hw : wantedA env q.guard = some b) : Region.wanted o (yielded ops a.tmps) = b := by
  obtain ⟨g, _, _, _, rfl, hg⟩ := h
  rcases hg with ⟨h1, rfl⟩ | ⟨k, want, d, h1, h2, rfl⟩
  · simp [wantedA] at hw
    subst hw
    simp [Region.wanted, h1]
  · simp only [wantedA] at hw
    have hy : yielded ops a.tmps k = match a.tmps[d]? with | some (.bool b) => some b | _ => none := by
      simp only [yielded, h2, Option.bind_some]
      rfl
    simp only [Region.wanted, h1, hy]
    split at hw
    · rename_i b0 he
      obtain ⟨u, hu, hv⟩ := s.val d _ he
      cases hv
      cases hw
      rw [hu]
      cases b0 <;> cases want <;> rfl
    · rename_i he
      obtain ⟨u, hu, hv⟩ := s.val d _ he
      cases hw
      rw [hu]
      cases hv
      rfl
    · cases hw

/-- what a piece of code leaves -/
def After (P : Program) (Z : Zs) (w : World) (j : J) (mem : List O) (s' : S) (a : Act) (w' : World) : Prop :=
  ∃ Z' j', St Z' w' j' s'.env a ∧ SR P Z' w' j' s'.mem ∧ Stp Z w j mem Z' w' j' s'.mem ∧ JExt j j'

theorem ops_sound {cfg : Cfg} {call : CallF} (hp : PureOK cfg.P call.pc) (hi : ImpOK cfg.P call.ic) {ops : Array Oper} {Q : Exit → Act → World → Prop} {dr : Bool} :
    ∀ (opers : List Oper) (l : List OpA) (env : List V) (mem : List O) (s' : S) (a : Act) (w : World) (Z : Zs) (j : J), Preps ops opers l → opsA cfg call dr l ⟨env, mem⟩ = some s' → St Z w j env a → SR cfg.P Z w j mem →
      (∀ a' w', After cfg.P Z w j mem s' a' w' → Q .normal a' w') → wpList cfg.P ops Q opers a w := by
  intro opers
  induction opers with
  | nil =>
    intro l env mem s' a w Z j hl h st sr hQ
    have : l = [] := List.eq_nil_of_length_eq_zero hl.1
    subst this
    simp [opsA] at h
    subst h
    exact hQ a w ⟨Z, j, st, sr, Stp.refl _ _ _ _, JExt.refl _⟩
  | cons o opers ih =>
    intro l env mem s' a w Z j hl h st sr hQ
    cases l with
    | nil => have := hl.1; simp at this
    | cons q rest =>
      have hq := hl.2 0 o q rfl rfl
      have hr : Preps ops opers rest := ⟨by have := hl.1; simpa using this, fun k o' q' h1 h2 => hl.2 (k + 1) o' q' (by simpa using h1) (by simpa using h2)⟩
      simp only [opsA] at h
      cases hw : wantedA env q.guard with
      | none => simp [hw] at h
      | some b =>
        have hwt := wanted_sound hq st hw
        obtain ⟨g, bx, sq, rx, rfl, _⟩ := hq
        simp only [wpList, hwt]
        cases b
        · simp [hw] at h
          rw [if_neg (by simp)]
          exact ih rest _ mem s' _ w Z j hr h (st.put o.dst (.tup (us := []) rfl fun i c u hc => by simp at hc)) sr hQ
        · simp only [hw, Option.bind_some, if_true] at h
          rw [if_pos rfl]
          cases ho : opX cfg call (drO dr ⟨o.dst, o.op, o.type, g, bx, sq, rx⟩) ⟨o.dst, o.op, o.type, g, bx, sq, rx⟩ env mem with
          | none => simp [ho] at h
          | some r =>
            obtain ⟨v, m⟩ := r
            simp only [ho, Option.bind_some] at h
            refine .inl ?_
            have hop := opX_sound hp hi sr st.eval ho
            unfold Oper.wp
            refine hop.upon ?_
            rintro u w1 ⟨Z1, j1, hv, s1, stp, je⟩
            refine ih rest _ m s' _ w1 Z1 j1 hr h ((st.mono stp.z je).put o.dst hv) s1 fun a' w' ⟨Z2, j2, h1, h2, h3, h4⟩ => hQ a' w' ⟨Z2, j2, h1, h2, stp.trans h3, je.trans h4⟩

theorem region_sound {cfg : Cfg} {call : CallF} (hp : PureOK cfg.P call.pc) (hi : ImpOK cfg.P call.ic) {ops : Array Oper} {Q : Exit → Act → World → Prop} {id : Nat} {l : List OpA} {env : List V} {s' : S} {a : Act}
    (hl : Preps ops ops.toList l) (h : opsA cfg call false l ⟨env, mem⟩ = some s') (st : St Z w j env a) (sr : SR cfg.P Z w j mem) (hQ : ∀ a' w', After cfg.P Z w j mem s' a' w' → Q .normal a' w') :
    (Code.region id ops false).wp cfg.P Q a w :=
  wp_region_list (ops_sound hp hi ops.toList l env mem s' a w Z j hl h st sr hQ)
end

end Go.Lite
