/-
  Lists of operations: in the order of the text.
-/
import Derived.Test.YtknapnnpmfhogaaLite12
import Derived.OrdersIn
import Derived.TacticsIn
import Derived.LoopNIn
import Derived.RangeFuncNested
namespace Go.Lite
open Go Go.MapKept
section
variable {P : Program} {Z Z' : Zs} {w w' : World} {j j' : J} {mem mem' : List O}
structure St (Z : Zs) (w : World) (j : J) (env : List V) (a : Act) : Prop where
  len : a.tmps.size = env.length
  val : ∀ (i : Nat) (v : V), env[i]? = some v → ∃ u, a.tmps[i]? = some u ∧ VR Z w j v u
theorem St.mono {env : List V} {a : Act} (s : St Z w j env a) (hz : ZExt Z w Z' w') (hj : JExt j j') : St Z' w' j' env a :=
  ⟨s.len, fun i v h => let ⟨u, h1, h2⟩ := s.val i v h; ⟨u, h1, h2.mono hz hj⟩⟩
theorem St.eval {env : List V} {a : Act} (s : St Z w j env a) : ∀ x v, evalO env x = some v → VR Z w j v (a.eval x) := by
  intro x v h
  cases x with
  | tmp t =>
    simp only [evalO] at h
    obtain ⟨u, h1, h2⟩ := s.val t v h
    simp [Act.eval, h1, Array.getD_eq_getD_getElem?]
    exact h2
  | const c =>
    simp only [evalO] at h
    exact constV_sound h
  | global g => simp [evalO] at h
  | func f =>
    simp [evalO] at h
    subst h
    exact .fn (us := []) rfl fun i c u hc => by simp at hc
theorem St.put {env : List V} {a : Act} (s : St Z w j env a) (d : Option Nat) {v : V} {u : Value} (hv : VR Z w j v u) : St Z w j (setO env d v) (a.put d u) := by
  cases d with
  | none => exact s
  | some d =>
    refine ⟨by simp [setO, Act.put, s.len], fun i x hx => ?_⟩
    simp only [setO, Act.put] at hx ⊢
    rw [Array.getElem?_setIfInBounds]
    by_cases e : d = i
    · subst e
      have hlt : d < env.length := by
        have := (List.getElem?_eq_some_iff.1 hx).1; simpa using this
      rw [List.getElem?_set_self hlt] at hx
      cases hx
      exact ⟨u, by rw [if_pos rfl, if_pos (by rw [s.len]; exact hlt)], hv⟩
    · rw [List.getElem?_set_ne e] at hx
      rw [if_neg e]
      exact s.val i x hx
def PrepOf (ops : Array Oper) (o : Oper) (q : OpA) : Prop :=
  ∃ g bx sq rx, q = ⟨o.dst, o.op, o.type, g, bx, sq, rx⟩ ∧ ((o.guard = none ∧ g = none) ∨ ∃ k want d, o.guard = some (k, want) ∧ (ops[k]?).bind (·.dst) = some d ∧ g = some (d, want))
def Preps (ops : Array Oper) (opers : List Oper) (l : List OpA) : Prop :=
  l.length = opers.length ∧ ∀ (k : Nat) (o : Oper) (q : OpA), opers[k]? = some o → l[k]? = some q → PrepOf ops o q
theorem prep_guard {ops : Array Oper} {o : Oper} {q : OpA} (h : prepOp ops o = some q) : PrepOf ops o q := by
  unfold prepOp at h
  split at h
  · rename_i hg; cases h; exact ⟨none, _, _, _, rfl, .inl ⟨hg, rfl⟩⟩
  · rename_i k want hg
    cases hd : (ops[k]?).bind (·.dst) with
    | none => simp [hd] at h
    | some d => simp [hd] at h; subst h; exact ⟨_, _, _, _, rfl, .inr ⟨k, want, d, hg, hd, rfl⟩⟩
theorem preps_of {ops : Array Oper} {opers : List Oper} {l : List OpA} (h : mapO (prepOp ops) opers = some l) : Preps ops opers l := by
  obtain ⟨h1, h2⟩ := mapO_get h
  refine ⟨h1, fun k o q ho hq => ?_⟩
  obtain ⟨o', ho', hp⟩ := h2 k q hq
  rw [ho] at ho'
  cases ho'
  exact prep_guard hp
theorem boxRx_of {ops : Array Oper} {o : Oper} {q : OpA} (pr : Nat → Bool) (h : PrepOf ops o q) : PrepOf ops o (boxRx pr q) := by
  obtain ⟨g, bx, sq, rx, rfl, hg⟩ := h
  unfold boxRx
  split
  · rename_i d _ _
    cases pr (5000000 + d)
    · exact ⟨g, bx, sq, rx, rfl, hg⟩
    · exact ⟨g, bx, sq, true, rfl, hg⟩
  · exact ⟨g, bx, sq, rx, rfl, hg⟩
theorem preps_box {ops : Array Oper} {opers : List Oper} {l : List OpA} (pr : Nat → Bool) (h : Preps ops opers l) : Preps ops opers (l.map (boxRx pr)) := by
  refine ⟨by rw [List.length_map]; exact h.1, fun k o q ho hq => ?_⟩
  rw [List.getElem?_map, Option.map_eq_some_iff] at hq
  obtain ⟨q0, hq0, rfl⟩ := hq
  exact boxRx_of pr (h.2 k o q0 ho hq0)
theorem flag_get : ∀ (l : List OpA) (fs : List (Bool × Bool × Bool)), (flagAll l fs).length = l.length ∧ ∀ (k : Nat) (q : OpA), (flagAll l fs)[k]? = some q → ∃ q0 bx sq rx, l[k]? = some q0 ∧ q = ⟨q0.dst, q0.op, q0.type, q0.guard, bx, sq, rx⟩ ∧ (q0.bx = true → bx = true)
  | [], fs => ⟨by cases fs <;> rfl, fun k q h => by cases fs <;> simp [flagAll] at h⟩
  | q :: l, [] => ⟨rfl, fun k q h => ⟨q, q.bx, q.sq, q.rx, h, rfl, id⟩⟩
  | q :: l, x :: fs => by
    obtain ⟨h1, h2⟩ := flag_get l fs
    refine ⟨by simp [flagAll, h1], fun k p hp => ?_⟩
    cases k with
    | zero => simp [flagAll] at hp; exact ⟨q, x.1 || q.bx, x.2.1, x.2.2, rfl, hp.symm, fun h => by simp [h]⟩
    | succ k => exact h2 k p (by simpa [flagAll] using hp)
def PrepS (o : Oper) (q : OpA) : Prop := ∃ T d x ty sq rx, o.op = .store T (.tmp d) x ∧ o.dst = none ∧ o.guard = none ∧ q = ⟨some d, .box T x, ty, none, true, sq, rx⟩
def PrepD (ops : Array Oper) (o : Oper) (q : OpA) : Prop := PrepOf ops o q ∨ PrepS o q
def PrepsD (ops : Array Oper) (opers : List Oper) (l : List OpA) : Prop :=
  l.length = opers.length ∧ ∀ (k : Nat) (o : Oper) (q : OpA), opers[k]? = some o → l[k]? = some q → PrepD ops o q
theorem Preps.drawn {ops : Array Oper} {opers : List Oper} {l : List OpA} (h : Preps ops opers l) : PrepsD ops opers l := ⟨h.1, fun k o q h1 h2 => .inl (h.2 k o q h1 h2)⟩
theorem preps_lazy {ops : Array Oper} {opers : List Oper} {l : List OpA} (h : Preps ops opers l) : PrepsD ops opers (lazyL l) := by
  refine ⟨by simp [lazyL, h.1], fun k o q ho hq => ?_⟩
  unfold lazyL at hq
  rw [List.getElem?_map] at hq
  cases hl : l[k]? with
  | none => simp [hl] at hq
  | some q0 =>
    simp only [hl, Option.map_some, Option.some.injEq] at hq
    have hp := h.2 k o q0 ho hl
    subst hq
    obtain ⟨g, bx, sq, rx, rfl, hg⟩ := id hp
    unfold lazyO
    simp only
    split
    · split
      · rename_i hop _ d hd
        cases hc : lazyAt l d _ with
        | true => exact .inl ⟨g, true, sq, rx, by simp only [cond_true, hd, hop], hg⟩
        | false => exact .inl hp
      · exact .inl hp
    · rename_i T d y hop
      cases hc : (lazyAt l d T && g.isNone && o.dst.isNone) with
      | true =>
        simp only [Bool.and_eq_true, Option.isNone_iff_eq_none] at hc
        obtain ⟨⟨_, hgn⟩, hdn⟩ := hc
        refine .inr ⟨T, d, y, _, sq, rx, hop, hdn, ?_, rfl⟩
        rcases hg with ⟨h1, _⟩ | ⟨k, want, d, _, _, h3⟩
        · exact h1
        · rw [hgn] at h3; cases h3
      | false => exact .inl hp
    · exact .inl hp
theorem preps_flag {ops : Array Oper} {opers : List Oper} {l : List OpA} (h : PrepsD ops opers l) (fs : List (Bool × Bool × Bool)) : PrepsD ops opers (flagAll l fs) := by
  obtain ⟨h1, h2⟩ := flag_get l fs
  refine ⟨h1.trans h.1, fun k o q ho hq => ?_⟩
  obtain ⟨q0, bx, sq, rx, hq0, rfl, hbx⟩ := h2 k q hq
  rcases h.2 k o q0 ho hq0 with ⟨g, _, _, _, rfl, hg⟩ | ⟨T, d, x, ty, sq0, rx0, e1, e2, e3, rfl⟩
  · exact .inl ⟨g, bx, sq, rx, rfl, hg⟩
  · have hb : bx = true := hbx rfl
    subst hb
    exact .inr ⟨T, d, x, ty, sq, rx, e1, e2, e3, rfl⟩
theorem tryD_some {ops : Array Oper} {opers : List Oper} {l l' : List OpA} (h : Preps ops opers l) : ∀ (r : List (Nat × Bool)), tryD ops l r = some l' → PrepsD ops opers l' ∧ drawOk ops l' = true := by
  intro r
  induction r with
  | nil => intro h; cases h
  | cons x r ih =>
    obtain ⟨m, lz⟩ := x
    intro h'
    unfold tryD at h'
    have key : ∀ l0, PrepsD ops opers l0 → (if drawOk ops (flagAll l0 (flags m l0 (ancs ops.toList []))) = true then some (flagAll l0 (flags m l0 (ancs ops.toList []))) else tryD ops l r) = some l' → PrepsD ops opers l' ∧ drawOk ops l' = true := by
      intro l0 h0 h'
      split at h'
      · rename_i hd
        cases h'
        exact ⟨preps_flag h0 _, hd⟩
      · exact ih h'
    cases lz
    · exact key l h.drawn h'
    · exact key (lazyL l) (preps_lazy h) h'
theorem St.fill {env : List V} {a : Act} (s : St Z w j env a) {d : Nat} {v : V} {u : Value} (hu : a.tmps[d]? = some u) (hv : VR Z w j v u) : St Z w j (env.set d v) a := by
  refine ⟨by simp [s.len], fun i x hx => ?_⟩
  by_cases e : d = i
  · subst e
    have hlt : d < env.length := by have := (List.getElem?_eq_some_iff.1 hx).1; simpa using this
    rw [List.getElem?_set_self hlt] at hx
    cases hx
    exact ⟨u, hu, hv⟩
  · rw [List.getElem?_set_ne e] at hx
    exact s.val i x hx
theorem wanted_sound {ops : Array Oper} {o : Oper} {q : OpA} {env : List V} {a : Act} {b : Bool} (h : PrepOf ops o q) (s : St Z w j env a) (hw : wantedA env q.guard = some b) : Region.wanted o (yielded ops a.tmps) = b := by
  obtain ⟨g, _, _, _, rfl, hg⟩ := h
  rcases hg with ⟨h1, rfl⟩ | ⟨k, want, d, h1, h2, rfl⟩
  · simp [wantedA] at hw
    subst hw
    simp [Region.wanted, h1]
  · simp only [wantedA] at hw
    have hy : yielded ops a.tmps k = match a.tmps[d]? with | some (.bool b) => some b | _ => none := by
      simp only [yielded, h2, Option.bind_some]
      rfl
    simp only [Region.wanted, h1, hy]
    split at hw
    · rename_i b0 he
      obtain ⟨u, hu, hv⟩ := s.val d _ he
      cases hv
      cases hw
      rw [hu]
      cases b0 <;> cases want <;> rfl
    · rename_i he
      obtain ⟨u, hu, hv⟩ := s.val d _ he
      cases hw
      rw [hu]
      cases hv
      rfl
    · cases hw
structure Kept (l : List OpA) (a a' : Act) : Prop where
  defs : a'.defers = a.defers
  size : a'.tmps.size = a.tmps.size
  tmps : ∀ i, (∀ o ∈ l, o.dst ≠ some i) → a'.tmps[i]? = a.tmps[i]?
theorem Kept.refl (l : List OpA) (a : Act) : Kept l a a := ⟨rfl, rfl, fun _ _ => rfl⟩
theorem Kept.put {l : List OpA} {a a' : Act} {o : OpA} (h : Kept l a a') (ho : o ∈ l) (u : Value) : Kept l a (a'.put o.dst u) := by
  obtain ⟨h1, h0, h2⟩ := h
  cases hd : o.dst with
  | none => exact ⟨h1, h0, h2⟩
  | some d =>
    refine ⟨h1, ?_, fun i hi => ?_⟩
    · show (a'.tmps.setIfInBounds d u).size = _
      rw [Array.size_setIfInBounds]; exact h0
    have : d ≠ i := fun e => hi o ho (by rw [hd, e])
    show (a'.tmps.setIfInBounds d u)[i]? = _
    rw [Array.getElem?_setIfInBounds_ne this]
    exact h2 i hi
theorem Kept.cons {l : List OpA} {o : OpA} {a a1 a' : Act} {u : Value} (h : Kept l (a.put o.dst u) a') : Kept (o :: l) a a' := by
  have h0 := (Kept.refl (o :: l) a).put (o := o) (by simp) u
  exact ⟨h.1.trans h0.1, h.2.trans h0.2, fun i hi => (h.3 i fun q hq => hi q (by simp [hq])).trans (h0.3 i hi)⟩
abbrev FR (r : Option Nat) : Fence := { Fence.wide with round := r }
theorem fr_wide : FR none = Fence.wide := rfl
theorem calls_in {r : Option Nat} {n : Nat} {P : Program} {f : FuncId} {args : Array Value} {w : World} {R : Ending → World → Prop} (h : Calls P f args w R) : CallsIn (FR r) n P f args w R := by
  have h1 : CallsIn Fence.wide n P f args w R := callsIn_wide.2 h
  cases r with
  | none => exact h1
  | some l => exact h1.inRound l
theorem OpOK.uponIn {o : Oper} {a : Act} {next : Act → World → Prop} {Q : Exit → Act → World → Prop} {Post : Value → World → Prop} {res : Result Next} {r : Option Nat} {n : Nat}
    (h : OpOK P Post res) (hn : ∀ u w', Post u w' → next (a.put o.dst u) w') : o.uponIn (FR r) n P a next Q res := by
  cases res with
  | ok x w1 =>
    cases x <;> first | exact h.elim | skip
    case value u => exact hn _ _ h
    case skip => exact hn _ _ h
    case enter f args => exact ⟨fun e => (by cases e), calls_in (Calls.mono h fun e w'' ⟨u, he, hp⟩ => by subst he; exact hn _ _ hp)⟩
  | halt x w1 => exact h.elim
theorem opA_nodefer {cfg : Cfg} {call : CallF} {dr : Bool} {o : OpA} {env : List V} {mem : List O} {v : V} {m : List O} (h : opA cfg call dr o env mem = some (v, m)) : ∀ c, o.op ≠ .defer c := by
  intro c e
  simp [opA, e] at h
theorem opX_nodefer {cfg : Cfg} {call : CallF} {dr : Bool} {o : OpA} {env : List V} {mem : List O} {v : V} {m : List O} (h : opX cfg call dr o env mem = some (v, m)) : ∀ c, o.op ≠ .defer c := by
  unfold opX at h
  split at h
  · simp only [Option.bind_eq_some_iff] at h
    obtain ⟨⟨v1, m1⟩, h1, _⟩ := h
    exact opA_nodefer h1
  · exact opA_nodefer h
theorem oper_in {o : Oper} {a : Act} {w : World} {next : Act → World → Prop} {Q : Exit → Act → World → Prop} {Post : Value → World → Prop} {r : Option Nat} {n : Nat} (hd : ∀ c, o.op ≠ .defer c)
    (h : OpOK P Post ((execOp a.eval o).run P w)) (hn : ∀ u w', Post u w' → next (a.put o.dst u) w') : o.wpIn (FR r) n P a w next Q := by
  refine ⟨fun _ _ => trivial, ?_⟩
  rw [Oper.semAt_eq _ _ _ hd]
  exact h.uponIn hn
def After (P : Program) (Z : Zs) (w : World) (j : J) (mem : List O) (s' : S) (a : Act) (w' : World) : Prop :=
  ∃ Z' j', St Z' w' j' s'.env a ∧ SR P Z' w' j' s'.mem ∧ Stp Z w j mem Z' w' j' s'.mem ∧ JExt j j'
theorem ops_sound {r : Option Nat} {n : Nat} {cfg : Cfg} {call : CallF} (hp : PureOK cfg.P call.pc) (hi : ImpOK cfg.P call.ic) {ops : Array Oper} {Q : Exit → Act → World → Prop} {dr : Bool} :
    ∀ (opers : List Oper) (l : List OpA) (env : List V) (mem : List O) (s' : S) (a : Act) (w : World) (Z : Zs) (j : J), Preps ops opers l → opsA cfg call dr l ⟨env, mem⟩ = some s' → St Z w j env a → SR cfg.P Z w j mem →
      (∀ a' w', After cfg.P Z w j mem s' a' w' → Kept l a a' → Q .normal a' w') → wpListIn (FR r) n cfg.P ops Q opers a w := by
  intro opers
  induction opers with
  | nil =>
    intro l env mem s' a w Z j hl h st sr hQ
    have : l = [] := List.eq_nil_of_length_eq_zero hl.1
    subst this
    simp [opsA] at h
    subst h
    exact hQ a w ⟨Z, j, st, sr, Stp.refl _ _ _ _, JExt.refl _⟩ (Kept.refl _ _)
  | cons o opers ih =>
    intro l env mem s' a w Z j hl h st sr hQ
    cases l with
    | nil => have := hl.1; simp at this
    | cons q rest =>
      have hq := hl.2 0 o q rfl rfl
      have hr : Preps ops opers rest := ⟨by have := hl.1; simpa using this, fun k o' q' h1 h2 => hl.2 (k + 1) o' q' (by simpa using h1) (by simpa using h2)⟩
      simp only [opsA] at h
      cases hw : wantedA env q.guard with
      | none => simp [hw] at h
      | some b =>
        have hwt := wanted_sound hq st hw
        obtain ⟨g, bx, sq, rx, rfl, _⟩ := hq
        simp only [wpListIn, hwt]
        cases b
        · simp [hw] at h
          rw [if_neg (by simp)]
          exact ⟨fun _ _ => trivial, ih rest _ mem s' _ w Z j hr h (st.put o.dst (.tup (us := []) rfl fun i c u hc => by simp at hc)) sr fun a' w' h1 h2 => hQ a' w' h1 (Kept.cons (a1 := a) (o := ⟨o.dst, o.op, o.type, g, bx, sq, rx⟩) h2)⟩
        · simp only [hw, Option.bind_some, if_true] at h
          rw [if_pos rfl]
          cases ho : opX cfg call (drO dr ⟨o.dst, o.op, o.type, g, bx, sq, rx⟩) ⟨o.dst, o.op, o.type, g, bx, sq, rx⟩ env mem with
          | none => simp [ho] at h
          | some r =>
            obtain ⟨v, m⟩ := r
            simp only [ho, Option.bind_some] at h
            have hop := opX_sound hp hi sr st.eval ho
            refine oper_in (opX_nodefer ho) hop ?_
            rintro u w1 ⟨Z1, j1, hv, s1, stp, je⟩
            refine ih rest _ m s' _ w1 Z1 j1 hr h ((st.mono stp.z je).put o.dst hv) s1 fun a' w' ⟨Z2, j2, h1, h2, h3, h4⟩ hk => hQ a' w' ⟨Z2, j2, h1, h2, stp.trans h3, je.trans h4⟩ (Kept.cons (a1 := a) (o := ⟨o.dst, o.op, o.type, g, bx, sq, rx⟩) hk)
theorem region_sound {r : Option Nat} {n : Nat} {cfg : Cfg} {call : CallF} (hp : PureOK cfg.P call.pc) (hi : ImpOK cfg.P call.ic) {ops : Array Oper} {Q : Exit → Act → World → Prop} {id : Nat} {l : List OpA} {env : List V} {s' : S} {a : Act}
    (hl : Preps ops ops.toList l) (h : opsA cfg call false l ⟨env, mem⟩ = some s') (st : St Z w j env a) (sr : SR cfg.P Z w j mem) (hQ : ∀ a' w', After cfg.P Z w j mem s' a' w' → Kept l a a' → Q .normal a' w') :
    (Code.region id ops false).wpIn (FR r) n cfg.P Q a w :=
  wpIn_region_list (ops_sound hp hi ops.toList l env mem s' a w Z j hl h st sr hQ)
end
end Go.Lite