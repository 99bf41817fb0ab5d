/-
  Code and functions: what the interpreter hands back is what the model's call hands back.
-/
import Derived.Test.YtknapnnpmfhogaaLiteS
namespace Go.Lite
open Go Go.MapKept
section
variable {P : Program} {Z Z' : Zs} {w w' : World} {j j' : J} {mem mem' : List O}
theorem prep_bare {pr : Nat → Bool} : ∀ (c : Code) (p : C), prep pr c = some p → bare p = p := by
  intro c
  induction c with
  | skip => intro p h; simp [prep] at h; subst h; rfl
  | region id ops draw =>
    intro p h
    simp only [prep, Option.bind_eq_some_iff] at h
    obtain ⟨l, _, h⟩ := h
    cases draw
    · simp only [Bool.false_eq_true, if_false] at h
      cases h
      rfl
    · simp only [if_true, Option.map_eq_some_iff] at h
      obtain ⟨_, _, rfl⟩ := h
      rfl
  | seq a b iha ihb =>
    intro p h
    simp only [prep, Option.bind_eq_some_iff, Option.map_eq_some_iff] at h
    obtain ⟨x, h1, y, h2, rfl⟩ := h
    simp only [bare, iha _ h1, ihb _ h2]
  | cond c a b iha ihb =>
    intro p h
    simp only [prep, Option.bind_eq_some_iff, Option.map_eq_some_iff] at h
    obtain ⟨x, h1, y, h2, rfl⟩ := h
    simp only [bare, iha _ h1, ihb _ h2]
  | block i a iha =>
    intro p h
    simp only [prep, Option.map_eq_some_iff] at h
    obtain ⟨x, h1, rfl⟩ := h
    simp only [bare, iha _ h1]
  | loop a iha =>
    intro p h
    simp only [prep, Option.map_eq_some_iff] at h
    obtain ⟨x, h1, rfl⟩ := h
    simp only [bare, iha _ h1]
  | exit i => intro p h; simp [prep] at h; subst h; rfl
  | ret => intro p h; simp [prep] at h; subst h; rfl
  | rangeFunc g ps a c iha ihc =>
    intro p h
    cases g <;> first | (simp [prep] at h; done) | skip
    simp only [prep, Option.bind_eq_some_iff] at h
    obtain ⟨x, h1, y, h2, h⟩ := h
    unfold rangeC at h
    split at h
    · cases h
      simp only [bare, iha _ h1, ihc _ h2]
    · cases h
  | _ => intro p h; simp [prep] at h
theorem setF_start {pr : Nat → Bool} {nt : Nat} {res : List Nat} (c : C) (env : List (Nat × List Nat)) (out : List Nat) : isStart (setF pr nt res env c out) = isStart c := by
  cases c with
  | seq a b =>
    simp only [setF]
    cases (cutAt pr b && !isStart a) <;> rfl
  | _ => rfl
theorem prep_head {pr : Nat → Bool} {c : Code} {g : Nat} {ps ws : List Nat} {a b : C} : prep pr c ≠ some (.uncons g ps ws a b) := by
  intro h
  cases c with
  | skip => cases h
  | region i ops dr =>
    simp only [prep, Option.bind_eq_some_iff] at h
    obtain ⟨l, _, h⟩ := h
    split at h
    · simp only [Option.map_eq_some_iff] at h
      obtain ⟨_, _, h⟩ := h
      cases h
    · cases h
  | seq p q =>
    simp only [prep, Option.bind_eq_some_iff, Option.map_eq_some_iff] at h
    obtain ⟨_, _, _, _, h⟩ := h
    cases h
  | cond c p q =>
    simp only [prep, Option.bind_eq_some_iff, Option.map_eq_some_iff] at h
    obtain ⟨_, _, _, _, h⟩ := h
    cases h
  | block i p =>
    simp only [prep, Option.map_eq_some_iff] at h
    obtain ⟨_, _, h⟩ := h
    cases h
  | loop p =>
    simp only [prep, Option.map_eq_some_iff] at h
    obtain ⟨_, _, h⟩ := h
    cases h
  | exit i => cases h
  | ret => cases h
  | rangeFunc g ps asg body =>
    cases g <;> first | (cases h; done) | skip
    simp only [prep, Option.bind_eq_some_iff] at h
    obtain ⟨_, _, _, _, h⟩ := h
    unfold rangeC at h
    split at h <;> cases h
  | _ => cases h
theorem setF_bare {pr : Nat → Bool} {nt : Nat} {res : List Nat} : ∀ (c : C) (env : List (Nat × List Nat)) (out : List Nat), bare (setF pr nt res env c out) = bare c := by
  intro c
  induction c with
  | seq a b iha ihb =>
    intro env out
    simp only [setF]
    cases h : (cutAt pr b && !isStart a) with
    | false => simp only [cond_false, bare, iha, ihb]
    | true =>
      have h2 : isStart a = false := by
        simp only [Bool.and_eq_true, Bool.not_eq_true'] at h
        exact h.2
      simp only [cond_true, bare, setF_start, h2, cond_false, iha, ihb]
  | cseq f a b iha ihb => intro env out; simp only [setF, bare, setF_start, iha, ihb]
  | cond c a b iha ihb => intro env out; simp only [setF, bare, iha, ihb]
  | block i a iha => intro env out; simp only [setF, bare, iha]
  | loop f a iha => intro env out; simp only [setF, bare, iha]
  | _ => intro env out; rfl
theorem exec_sound {pr : Nat → Bool} {cfg : Cfg} {call : CallF} (hm : cfg.P.follows .mixedOrders = true) (hp : PureOK cfg.P call.pc) (hi : ImpOK cfg.P call.ic) (hsq : SeqOK cfg.P cfg.seqp) {n n0 : Nat} :
    ∀ (c : Code) (ro : Option Nat) (cc : C) (s : S) (x : Ex) (s' : S), prep pr c = some (bare cc) → (ro ≠ none → hasStart cc = false) → exec cfg call n n0 cc s = some (x, s') → ∀ (a : Act) (w : World) (Z : Zs) (j : J), St Z w j s.env a → SR cfg.P Z w j s.mem →
      ∀ (Q : Exit → Act → World → Prop), (∀ a' w', AfterC cfg.P n0 Z w j s.mem s' a' w' → KeptC (wrs cc) w a a' w' → Q x.toExit a' w') → ∀ (m : Nat), c.wpIn (FR ro) m cfg.P Q a w := by
  intro c
  induction c with
  | skip =>
    intro ro cc s x s' hc hns h a w Z j st sr Q hQ m
    cases cc <;> simp [prep, bare] at hc
    simp [exec] at h
    obtain ⟨rfl, rfl⟩ := h
    exact wpIn_skip (hQ a w ⟨Z, j, st, sr, Stp.refl _ _ _ _, JK.refl _ _⟩ (KeptC.refl _ _ _ _))
  | region id ops draw =>
    intro ro cc s x s' hc hns h a w Z j st sr Q hQ m
    simp only [prep] at hc
    cases hl : mapO (prepOp ops) ops.toList with
    | none => simp [hl] at hc
    | some l =>
      simp only [hl, Option.bind_some] at hc
      have hpl := preps_of hl
      split at hc
      · rename_i hdr
        simp only [Option.map_eq_some_iff] at hc
        obtain ⟨l', ht, hc⟩ := hc
        obtain ⟨hpd, hd⟩ := tryD_some hpl _ ht
        cases cc <;> simp [bare] at hc
        obtain ⟨rfl, rfl⟩ := hc
        simp only [exec, Option.bind_eq_some_iff] at h
        obtain ⟨s1, h1, h2⟩ := h
        split at h2
        rotate_left
        · cases h2
        rename_i hchk
        cases h2
        simp only [Bool.not_true, Bool.false_or] at hchk
        rw [hdr]
        exact drawn_sound hm hp hi hd hpd hchk h1 st sr fun a' w' ⟨Z1, j1, q1, q2, q3, q4⟩ hk => hQ a' w' ⟨Z1, j1, q1, q2, q3, JK.of q4⟩ (KeptC.of hk w w')
      · rename_i hdr
        cases cc <;> simp [bare] at hc
        obtain ⟨rfl, rfl⟩ := hc
        simp only [exec, Option.bind_eq_some_iff] at h
        obtain ⟨s1, h1, h2⟩ := h
        simp only [Bool.not_false, Bool.true_or, if_true, Option.some.injEq, Prod.mk.injEq] at h2
        obtain ⟨rfl, rfl⟩ := h2
        have hdr : draw = false := by simpa using hdr
        rw [hdr]
        exact region_sound hp hi (preps_box pr hpl) h1 st sr fun a' w' ⟨Z1, j1, q1, q2, q3, q4⟩ hk => hQ a' w' ⟨Z1, j1, q1, q2, q3, JK.of q4⟩ (KeptC.of hk w w')
  | seq p q ihp ihq =>
    intro ro cc s x s' hc hns h a w Z j st sr Q hQ m
    simp only [prep] at hc
    cases hcp : prep pr p with
    | none => simp [hcp] at hc
    | some cp =>
      cases hcq : prep pr q with
      | none => simp [hcp, hcq] at hc
      | some cq =>
        cases cc <;> simp [hcp, hcq, bare] at hc
        rotate_left
        · rename_i fl ca cb
          obtain ⟨hc1, rfl⟩ := hc
          have hst0 : isStart ca = false := by
            cases hh : isStart ca with
            | false => rfl
            | true => rw [hh] at hc1; exact absurd (hcp.trans (congrArg some hc1)) prep_head
          rw [hst0] at hc1
          have hcp : prep pr p = some (bare ca) := by rw [hcp, hc1]; rfl
          simp only [exec] at h
          cases h1 : exec cfg call n n0 ca s with
          | none => simp [h1] at h
          | some r =>
            obtain ⟨x1, s1⟩ := r
            simp only [h1, Option.bind_some] at h
            have hns' : ro ≠ none → hasStart ca = false ∧ hasStart cb = false := fun e => by have := hns e; simpa [hasStart] using this
            refine wpIn_seq (ihp ro ca s x1 s1 hcp (fun e => (hns' e).1) h1 a w Z j st sr _ (fun a1 w1 haf hk => ?_) m)
            cases x1 with
            | norm =>
              obtain ⟨Z1, j1, q1, q2, q3, q4⟩ := haf
              obtain ⟨j2, t1, t2, t3, t4⟩ := clean_sound n0 fl q1 q2
              refine ihq ro cb (clean n0 fl s1) x s' hcq (fun e => (hns' e).2) h a1 w1 Z1 j2 t1 t2 Q (fun a' w' h' hk' => ?_) m
              obtain ⟨Z2, j3, r1, r2, r3, r4⟩ := h'
              exact hQ a' w' ⟨Z2, j3, r1, r2, (q3.trans t3).trans r3, (q4.trans t4).trans r4⟩ (hk.trans q2 (t3.trans r3) q3.size hk')
            | exit i => cases h; exact hQ a1 w1 haf (hk.weak fun i hi => List.mem_append.2 (.inl hi))
            | ret => cases h; exact hQ a1 w1 haf (hk.weak fun i hi => List.mem_append.2 (.inl hi))
        rename_i ca cb
        obtain ⟨rfl, rfl⟩ := hc
        simp only [exec] at h
        cases h1 : exec cfg call n n0 ca s with
        | none => simp [h1] at h
        | some r =>
          obtain ⟨x1, s1⟩ := r
          simp only [h1, Option.bind_some] at h
          have hns' : ro ≠ none → hasStart ca = false ∧ hasStart cb = false := fun e => by have := hns e; simpa [hasStart] using this
          refine wpIn_seq (ihp ro ca s x1 s1 hcp (fun e => (hns' e).1) h1 a w Z j st sr _ (fun a1 w1 haf hk => ?_) m)
          cases x1 with
          | norm =>
            obtain ⟨Z1, j1, q1, q2, q3, q4⟩ := haf
            refine ihq ro cb s1 x s' hcq (fun e => (hns' e).2) h a1 w1 Z1 j1 q1 q2 Q (fun a' w' h' hk' => ?_) m
            obtain ⟨Z2, j2, r1, r2, r3, r4⟩ := h'
            exact hQ a' w' ⟨Z2, j2, r1, r2, q3.trans r3, q4.trans r4⟩ (hk.trans q2 r3 q3.size hk')
          | exit i => cases h; exact hQ a1 w1 haf (hk.weak fun i hi => List.mem_append.2 (.inl hi))
          | ret => cases h; exact hQ a1 w1 haf (hk.weak fun i hi => List.mem_append.2 (.inl hi))
  | cond cnd p q ihp ihq =>
    intro ro cc s x s' hc hns h a w Z j st sr Q hQ m
    simp only [prep] at hc
    cases hcp : prep pr p with
    | none => simp [hcp] at hc
    | some cp =>
      cases hcq : prep pr q with
      | none => simp [hcp, hcq] at hc
      | some cq =>
        cases cc <;> simp [hcp, hcq, bare] at hc
        rename_i c0 ca cb
        obtain ⟨rfl, rfl, rfl⟩ := hc
        simp only [exec] at h
        cases h1 : evalO s.env cnd with
        | none => simp [h1] at h
        | some v =>
          have hv := st.eval cnd v h1
          cases v <;> simp only [h1, Option.bind_some] at h <;> first | (cases h; done) | skip
          rename_i t
          cases hu : a.eval cnd <;> rw [hu] at hv <;> cases hv
          have hns' : ro ≠ none → hasStart ca = false ∧ hasStart cb = false := fun e => by have := hns e; simpa [hasStart] using this
          cases t
          · exact wpIn_cond hu (ihq ro cb s x s' hcq (fun e => (hns' e).2) (by simpa using h) a w Z j st sr Q (fun a' w' h1 h2 => hQ a' w' h1 (h2.weak fun i hi => List.mem_append.2 (.inr hi))) m)
          · exact wpIn_cond hu (ihp ro ca s x s' hcp (fun e => (hns' e).1) (by simpa using h) a w Z j st sr Q (fun a' w' h1 h2 => hQ a' w' h1 (h2.weak fun i hi => List.mem_append.2 (.inl hi))) m)
  | block id p ihp =>
    intro ro cc s x s' hc hns h a w Z j st sr Q hQ m
    simp only [prep, Option.map_eq_some_iff] at hc
    obtain ⟨cp0, hcp, hb⟩ := hc
    cases cc <;> simp [bare] at hb
    rename_i id2 cp
    obtain ⟨rfl, rfl⟩ := hb
    simp only [exec, Option.map_eq_some_iff] at h
    obtain ⟨⟨x1, s1⟩, h1, h2⟩ := h
    refine wpIn_block (ihp ro cp s x1 s1 hcp hns h1 a w Z j st sr _ (fun a1 w1 haf hk => ?_) m)
    cases x1 with
    | norm => cases h2; exact hQ a1 w1 haf hk
    | ret => cases h2; exact hQ a1 w1 haf hk
    | exit i =>
      simp only at h2
      show (if i = id then Q .normal a1 w1 else Q (.exit i) a1 w1)
      split at h2
      · rename_i e; cases h2; rw [if_pos e]; exact hQ a1 w1 haf hk
      · rename_i e; cases h2; rw [if_neg e]; exact hQ a1 w1 haf hk
  | loop p ihp =>
    intro ro cc s x s' hc hns h a w Z j st sr Q hQ m
    simp only [prep, Option.map_eq_some_iff] at hc
    obtain ⟨cp0, hcp, hb⟩ := hc
    cases cc <;> simp [bare] at hb
    rename_i fl cp
    subst hb
    simp only [exec, Option.map_eq_some_iff] at h
    obtain ⟨⟨x1, s1⟩, h1, h2⟩ := h
    cases h2
    refine wpIn_loop_rounds n ?_
    have key : ∀ (k : Nat) (s : S) (x1 : Ex) (s1 : S), iter (fun s => exec cfg call n n0 cp (clean n0 fl s)) k s = some (x1, s1) → ∀ (a : Act) (w : World) (Z : Zs) (j : J), St Z w j s.env a → SR cfg.P Z w j s.mem →
        (∀ a' w', AfterC cfg.P n0 Z w j s.mem (clean n0 fl s1) a' w' → KeptC (wrs cp) w a a' w' → Q x1.toExit a' w') → Code.roundsIn (FR ro) m cfg.P p Q k a w := by
      intro k
      induction k with
      | zero => intro s x1 s1 h; simp [iter] at h
      | succ k ihk =>
        intro s x1 s1 h a w Z j st sr hQ
        simp only [iter] at h
        obtain ⟨j0', t1, t2, t3, t4⟩ := clean_sound n0 fl st sr
        cases hs : exec cfg call n n0 cp (clean n0 fl s) with
        | none => simp [hs] at h
        | some r =>
          obtain ⟨x2, s2⟩ := r
          simp only [hs, Option.bind_some] at h
          rw [roundsIn_succ]
          refine ihp ro cp _ x2 s2 hcp hns hs a w Z j0' t1 t2 _ (fun a2 w2 haf hk => ?_) m
          have fin : some (x2, s2) = some (x1, s1) → Q x1.toExit a2 w2 := by
            intro h
            cases h
            obtain ⟨Z1, j1, q1, q2, q3, q4⟩ := haf
            obtain ⟨j2, r1, r2, r3, r4⟩ := clean_sound n0 fl q1 q2
            exact hQ a2 w2 ⟨Z1, j2, r1, r2, (t3.trans q3).trans r3, (t4.trans q4).trans r4⟩ hk
          cases x2 with
          | norm =>
            obtain ⟨Z1, j1, q1, q2, q3, q4⟩ := haf
            refine ihk s2 x1 s1 h a2 w2 Z1 j1 q1 q2 fun a' w' h' hk' => ?_
            obtain ⟨Z2, j2, r1, r2, r3, r4⟩ := h'
            exact hQ a' w' ⟨Z2, j2, r1, r2, (t3.trans q3).trans r3, (t4.trans q4).trans r4⟩ ((hk.trans q2 r3 q3.size hk').weak fun i hi => (List.mem_append.1 hi).elim id id)
          | exit i => have := fin h; cases h; exact this
          | ret => have := fin h; cases h; exact this
    exact key n s _ s1 h1 a w Z j st sr hQ
  | rangeFunc g ps asg body iha ihb =>
    intro ro cc s x s' hc hns h a w Z j st sr Q hQ m
    cases g <;> first | (simp [prep] at hc; done) | skip
    rename_i g
    simp only [prep, Option.bind_eq_some_iff] at hc
    obtain ⟨pa, hpa, pc, hpc, hc⟩ := hc
    unfold rangeC at hc
    split at hc
    rotate_left
    · cases hc
    rename_i hcond
    simp only [Bool.and_eq_true, Bool.not_eq_true'] at hcond
    obtain ⟨⟨⟨hst, hs1⟩, hs2⟩, hex⟩ := hcond
    have hc0 := Option.some.inj hc
    clear hc
    cases cc <;> simp [bare] at hc0
    rotate_left
    · rename_i fl ca cb
      obtain ⟨hc1, _⟩ := hc0
      cases hh : isStart ca with
      | true => rw [hh] at hc1; cases hc1
      | false =>
        rw [hh] at hc1
        cases ca <;> simp [bare] at hc1
        cases hh
    rename_i c1 c2
    obtain ⟨hc1, hc2⟩ := hc0
    cases c1 <;> simp [bare] at hc1
    subst hc1
    cases c2 <;> simp [bare] at hc2
    rename_i bid c3
    obtain ⟨rfl, hc3⟩ := hc2
    cases c3 <;> simp [bare] at hc3
    rename_i F c4
    cases c4 <;> simp [bare] at hc3
    rename_i g' ps' ws c5 c6
    obtain ⟨rfl, rfl, rfl, hc5, hc6⟩ := hc3
    subst hc5 hc6
    have hro : ro = none := by
      cases ro with
      | none => rfl
      | some l => have := hns (by simp); simp [hasStart] at this
    subst hro
    cases hsa : startA cfg g s with
    | none => simp [exec, hsa] at h
    | some s1 =>
      have hx : exec cfg call n n0 (.block (rgId g) (.loop F (.uncons g ps.toList (ps.toList ++ (wrs pa ++ wrs pc)) (.seq pa pc) (.exit (rgId g))))) s1 = some (x, s') := by
        rw [exec] at h
        simp only [exec, hsa, Option.map_some, Option.bind_some] at h ⊢
        exact h
      clear h
      rw [exec, exec] at hx
      simp only [Option.map_eq_some_iff] at hx
      obtain ⟨⟨y, s2⟩, ⟨⟨y0, s20⟩, hit, hr⟩, h2⟩ := hx
      have hr1 : y0 = y := congrArg Prod.fst hr
      have hr2 : clean n0 F s20 = s2 := congrArg Prod.snd hr
      subst hr1 hr2
      refine range_sound (ca := pa) (cb := pc) hsq (fun i hi => ?_) hst ?_ (fun l s x s' h a w Z j st sr Q hQ => iha (some l) pa s x s' (hpa.trans (congrArg some (prep_bare _ _ hpa).symm)) (fun _ => hs1) h a w Z j st sr Q hQ 0) (fun l s x s' h a w Z j st sr Q hQ => ihb (some l) pc s x s' (hpc.trans (congrArg some (prep_bare _ _ hpc).symm)) (fun _ => hs2) h a w Z j st sr Q hQ 0) hsa hit st sr (fun a' w' haf hk => ?_) m
      · simp only [List.mem_append]
        rcases hi with hi | hi | hi
        · exact .inl hi
        · exact .inr (.inl hi)
        · exact .inr (.inr hi)
      · intro hb
        have : (exits (.seq pa pc)).contains (rgId g) = true := by
          simp only [exits, List.contains_iff_mem, List.mem_append]
          exact .inr hb
        rw [this] at hex
        cases hex
      · have hk' := hk.weak (ws' := wrs (.seq (.start g) (.block (rgId g) (.loop F (.uncons g ps.toList (ps.toList ++ (wrs pa ++ wrs pc)) (.seq pa pc) (.exit (rgId g))))))) (fun i hi => by simp at hi)
        cases y0 with
        | norm => cases h2; exact hQ a' w' haf hk'
        | ret => cases h2; exact hQ a' w' haf hk'
        | exit i =>
          simp only at h2
          show Q (outX (rgId g) (.exit i)) a' w'
          simp only [outX]
          split at h2
          · rename_i e; cases h2; rw [if_pos e]; exact hQ a' w' haf hk'
          · rename_i e; cases h2; rw [if_neg e]; exact hQ a' w' haf hk'
  | exit i =>
    intro ro cc s x s' hc hns h a w Z j st sr Q hQ m
    cases cc <;> simp [prep, bare] at hc
    subst hc
    simp [exec] at h
    obtain ⟨rfl, rfl⟩ := h
    exact wpIn_exit (hQ a w ⟨Z, j, st, sr, Stp.refl _ _ _ _, JK.refl _ _⟩ (KeptC.refl _ _ _ _))
  | ret =>
    intro ro cc s x s' hc hns h a w Z j st sr Q hQ m
    cases cc <;> simp [prep, bare] at hc
    simp [exec] at h
    obtain ⟨rfl, rfl⟩ := h
    exact wpIn_ret (hQ a w ⟨Z, j, st, sr, Stp.refl _ _ _ _, JK.refl _ _⟩ (KeptC.refl _ _ _ _))
  | _ => intro ro cc s x s' hc; simp [prep] at hc
def toG : Ex → Exit
  | .norm => .normal
  | .exit i => if i < 3000000 then .exit i else .goto ((i - 3000000) / 2)
  | .ret => .ret
def outE (l : Nat) : Ex → Exit
  | .exit i => if i = eId l then .normal else toG (.exit i)
  | y => toG y
theorem toG_of {x : Ex} (h : ∀ i, x = .exit i → i < 3000000) : toG x = x.toExit := by
  cases x with
  | exit i => simp only [toG, if_pos (h i rfl)]; rfl
  | _ => rfl
theorem toG_g (l : Nat) : toG (.exit (gId l)) = .goto l := by
  have h1 : ¬ (3000000 + 2 * l < 3000000) := by omega
  have h2 : (3000000 + 2 * l - 3000000) / 2 = l := by omega
  simp only [toG, gId, if_neg h1, h2]
theorem exec_free {cfg : Cfg} {call : CallF} {n n0 : Nat} : ∀ (c : C) (s : S) (i : Nat) (s' : S), exec cfg call n n0 c s = some (.exit i, s') → i ∈ free c := by
  intro c
  induction c with
  | skip => intro s i s' h; simp [exec] at h
  | ops dr l =>
    intro s i s' h
    simp only [exec, Option.bind_eq_some_iff] at h
    obtain ⟨s1, _, h⟩ := h
    split at h <;> cases h
  | seq a b iha ihb =>
    intro s i s' h
    simp only [exec, Option.bind_eq_some_iff] at h
    obtain ⟨⟨x, s1⟩, h1, h⟩ := h
    simp only [free, List.mem_append]
    cases x with
    | norm => exact .inr (ihb _ _ _ h)
    | exit e => cases h; exact .inl (iha _ _ _ h1)
    | ret => cases h
  | cseq f a b iha ihb =>
    intro s i s' h
    simp only [exec, Option.bind_eq_some_iff] at h
    obtain ⟨⟨x, s1⟩, h1, h⟩ := h
    simp only [free, List.mem_append]
    cases x with
    | norm => exact .inr (ihb _ _ _ h)
    | exit e => cases h; exact .inl (iha _ _ _ h1)
    | ret => cases h
  | cond c a b iha ihb =>
    intro s i s' h
    simp only [exec, Option.bind_eq_some_iff] at h
    obtain ⟨v, _, h⟩ := h
    simp only [free, List.mem_append]
    split at h
    · split at h
      · exact .inl (iha _ _ _ h)
      · exact .inr (ihb _ _ _ h)
    · cases h
  | block id c ih =>
    intro s i s' h
    simp only [exec, Option.map_eq_some_iff] at h
    obtain ⟨⟨x, s1⟩, h1, h⟩ := h
    cases x with
    | norm => cases h
    | ret => cases h
    | exit e =>
      simp only at h
      split at h
      · cases h
      · rename_i hne
        cases h
        simp only [free, List.mem_filter]
        exact ⟨ih _ _ _ h1, by simpa using hne⟩
  | loop f c ih =>
    intro s i s' h
    simp only [exec, Option.map_eq_some_iff] at h
    obtain ⟨⟨x, s1⟩, h1, h⟩ := h
    simp only [free]
    have key : ∀ (k : Nat) (s : S) (r : Ex × S), iter (fun s => exec cfg call n n0 c (clean n0 f s)) k s = some r → ∀ i, r.1 = .exit i → i ∈ free c := by
      intro k
      induction k with
      | zero => intro s r h; simp [iter] at h
      | succ k ihk =>
        intro s r h i hi
        simp only [iter, Option.bind_eq_some_iff] at h
        obtain ⟨⟨y, s2⟩, g1, g2⟩ := h
        cases y with
        | norm => exact ihk _ _ g2 i hi
        | exit e => cases g2; cases hi; exact ih _ _ _ g1
        | ret => cases g2; cases hi
    cases h
    exact key _ _ _ h1 i rfl
  | exit j => intro s i s' h; simp [exec] at h; simp [free, h.1]
  | ret => intro s i s' h; simp [exec] at h
  | start g => intro s i s' h; simp [exec] at h
  | uncons g ps ws a b iha ihb =>
    intro s i s' h
    simp only [free, List.mem_append]
    simp only [exec] at h
    split at h
    · exact .inr (ihb _ _ _ h)
    · split at h
      · simp only [Option.map_eq_some_iff] at h
        obtain ⟨⟨x, s1⟩, h1, h⟩ := h
        cases h
        exact .inl (iha _ _ _ h1)
      · cases h
    · cases h
theorem free_bare : ∀ (c : C), free (bare c) = free c := by
  intro c
  induction c with
  | seq a b iha ihb => simp only [bare, free, iha, ihb]
  | cond c a b iha ihb => simp only [bare, free, iha, ihb]
  | block i a iha => simp only [bare, free, iha]
  | loop f a iha => simp only [bare, free, iha]
  | cseq f a b iha ihb =>
    simp only [bare, free, ihb]
    cases ha : isStart a with
    | false => simp only [cond_false, iha]
    | true =>
      cases a <;> simp [isStart] at ha
      simp only [cond_true, free, List.append_nil]
  | _ => rfl
theorem exits_bare_le : ∀ (c : C) (i : Nat), i ∈ exits c → i ∈ exits (bare c) := by
  intro c
  induction c with
  | seq a b iha ihb => intro i h; simp only [bare, exits, List.mem_append] at h ⊢; exact h.imp (iha i) (ihb i)
  | cond c a b iha ihb => intro i h; simp only [bare, exits, List.mem_append] at h ⊢; exact h.imp (iha i) (ihb i)
  | block i a iha => intro i h; simp only [bare, exits] at h ⊢; exact iha i h
  | loop f a iha => intro i h; simp only [bare, exits] at h ⊢; exact iha i h
  | cseq f a b iha ihb =>
    intro i h
    simp only [bare, exits, List.mem_append] at h ⊢
    rcases h with h | h
    · cases ha : isStart a with
      | false => simp only [cond_false]; exact .inl (iha i h)
      | true => cases a <;> simp [isStart] at ha; simp [exits] at h
    · exact .inr (ihb i h)
  | _ => intro i h; exact h
def wpS (F : Fence) (n : Nat) (P : Program) (c0 d : Code) (Q : Exit → Act → World → Prop) (a : Act) (w : World) : Prop :=
  ∀ (b : Frame) (k : List Item) (cs : List Frame), b.roundOf = F.round → F.fn b.fn → F.room (cs.length + 1 + n) →
    ∃ e a' w', Q e a' w' ∧ ArrivesIn (Machine.fenced P F) P (lone (b.atR a (.code d :: .inScope c0 :: k)) cs w) b (.inScope c0 :: k) cs e a' w'
section
variable {F : Fence} {m : Nat} {P : Program} {c0 : Code} {Q : Exit → Act → World → Prop} {a : Act} {w : World}
theorem wpS_of {d : Code} (h : d.wpIn F m P Q a w) : wpS F m P c0 d Q a w := fun b k cs hro hb hr => h b (.inScope c0 :: k) cs hro hb hr
theorem wpS_mono {d : Code} {Q' : Exit → Act → World → Prop} (h : wpS F m P c0 d Q a w) (hq : ∀ e a w, Q e a w → Q' e a w) : wpS F m P c0 d Q' a w :=
  fun b k cs hro hb hr => let ⟨e, a', w', q, r⟩ := h b k cs hro hb hr; ⟨e, a', w', hq _ _ _ q, r⟩
theorem wpS_seq {x y : Code} (h : x.wpIn F m P (Exit.then (wpS F m P c0 y Q) Q) a w) : wpS F m P c0 (.seq x y) Q a w := by
  intro b k cs hro hb hr
  have h0 : (lone (b.atR a (.code (.seq x y) :: .inScope c0 :: k)) cs w).fenced P F := fenced_calm hb hr rfl
  obtain ⟨e, a₁, w₁, hq, harr⟩ := h b (.code y :: .inScope c0 :: k) cs hro hb hr
  cases e with
  | normal =>
    obtain ⟨e₂, a₂, w₂, hq₂, harr₂⟩ := hq b k cs hro hb hr
    exact ⟨e₂, a₂, w₂, hq₂, .of_steps (.head h0 stepR_seq harr) harr₂⟩
  | exit id => exact ⟨_, a₁, w₁, hq, .of_steps (.one h0 stepR_seq) (.pass (x := .code y) rfl (fun _ _ => .inl (by simp)) harr)⟩
  | goto l => exact ⟨_, a₁, w₁, hq, .of_steps (.one h0 stepR_seq) (.pass (x := .code y) rfl (fun _ _ => .inl (by simp)) harr)⟩
  | ret => exact ⟨_, a₁, w₁, hq, .of_steps (.one h0 stepR_seq) (.pass (x := .code y) rfl (fun _ _ => .inl (by simp)) harr)⟩
  | panic ch => exact ⟨_, a₁, w₁, hq, .of_steps (.one h0 stepR_seq) (.pass (x := .code y) rfl (fun _ _ => .inl (by simp)) harr)⟩
  | outgrown => exact ⟨_, a₁, w₁, hq, .of_steps (.one h0 stepR_seq) (.pass (x := .code y) rfl (fun _ _ => .inl (by simp)) harr)⟩
theorem wpS_jump {d rest : Code} {l : Nat} (hf : findLabel c0 l = some rest)
    (h : wpS F m P c0 d (fun e a1 w1 => match e with | .goto l' => if l' = l then wpS F m P c0 rest Q a1 w1 else Q (.goto l') a1 w1 | e => Q e a1 w1) a w) : wpS F m P c0 d Q a w := by
  intro b k cs hro hb hr
  obtain ⟨e, a₁, w₁, hq, harr⟩ := h b k cs hro hb hr
  cases e with
  | goto l' =>
    simp only at hq
    split at hq
    · rename_i e
      subst e
      obtain ⟨e₂, a₂, w₂, hq₂, harr₂⟩ := hq b k cs hro hb hr
      have hg : gotoIn l' (.inScope c0 :: k) = some (.code rest :: .inScope c0 :: k) := by simp [gotoIn, hf]
      exact ⟨e₂, a₂, w₂, hq₂, .of_steps (harr.1 _ hg) harr₂⟩
    · exact ⟨_, a₁, w₁, hq, harr⟩
  | normal => exact ⟨_, a₁, w₁, hq, harr⟩
  | exit id => exact ⟨_, a₁, w₁, hq, harr⟩
  | ret => exact ⟨_, a₁, w₁, hq, harr⟩
  | panic ch => exact ⟨_, a₁, w₁, hq, harr⟩
  | outgrown => exact ⟨_, a₁, w₁, hq, harr⟩
theorem stepR_scope {b : Frame} {k : List Item} {cs : List Frame} : step P (lone (b.atR a (.code (.scope c0) :: k)) cs w) = .next (lone (b.atR a (.code c0 :: .inScope c0 :: k)) cs w) :=
  step_lone_go (by simp [stepG, stepG.exec, Frame.atR])
theorem stepR_inScope {b : Frame} {k : List Item} {cs : List Frame} : step P (lone (b.atR a (.inScope c0 :: k)) cs w) = .next (lone (b.atR a k) cs w) :=
  step_lone_go (by simp [stepG, stepG.exec, Frame.atR])
theorem wpIn_scope (h : wpS F m P c0 c0 (fun e a1 w1 => (∀ l, e ≠ .goto l) ∧ Q e a1 w1) a w) : (Code.scope c0).wpIn F m P Q a w := by
  intro b k cs hro hb hr
  have h0 : (lone (b.atR a (.code (.scope c0) :: k)) cs w).fenced P F := fenced_calm hb hr rfl
  obtain ⟨e, a₁, w₁, ⟨hng, hq⟩, harr⟩ := h b k cs hro hb hr
  cases e with
  | normal => exact ⟨.normal, a₁, w₁, hq, .head h0 stepR_scope (StepsIn.trans harr (.one (fenced_calm hb hr rfl) stepR_inScope))⟩
  | exit id =>
    have hx : exitTo id (.inScope c0 :: k) = exitTo id k := by simp [exitTo]
    exact ⟨.exit id, a₁, w₁, hq, fun k' hk => .head h0 stepR_scope (harr.1 k' (by rw [hx]; exact hk)),
      fun hr' hk => let ⟨k₁, h1, h2⟩ := harr.2 hr' (by rw [hx]; exact hk); ⟨k₁, h1, .head h0 stepR_scope h2⟩⟩
  | goto l => exact (hng l rfl).elim
  | ret => exact ⟨_, a₁, w₁, hq, .of_steps (.one h0 stepR_scope) harr⟩
  | panic ch => exact ⟨_, a₁, w₁, hq, .of_steps (.one h0 stepR_scope) harr⟩
  | outgrown => exact ⟨_, a₁, w₁, hq, .of_steps (.one h0 stepR_scope) harr⟩
end
theorem findLabel_none {l : Nat} : ∀ {c : Code}, l ∉ spineL c → findLabel c l = none := by
  intro c
  induction c with
  | seq a b iha ihb =>
    intro h
    simp only [spineL, List.mem_append, not_or] at h
    simp only [findLabel, iha h.1, ihb h.2]
  | label l' =>
    intro h
    simp only [spineL, List.mem_singleton] at h
    simp only [findLabel]
    rw [if_neg]
    simpa using fun e => h e.symm
  | _ => intro _; rfl
theorem prepS_bare {pr : Nat → Bool} : ∀ (c : Code) (p : C), prepS pr c = some p → bare p = p := by
  intro c
  have leaf : ∀ c p, ((prep pr c).bind fun cc => if (exits cc).all fun i => Nat.blt i 3000000 then some cc else none) = some p → bare p = p := by
    intro c p h
    simp only [Option.bind_eq_some_iff] at h
    obtain ⟨cc, h1, h2⟩ := h
    split at h2
    · cases h2; exact prep_bare _ _ h1
    · cases h2
  induction c with
  | seq a b iha ihb =>
    intro p h
    simp only [prepS] at h
    split at h
    · simp only [Option.map_eq_some_iff] at h
      obtain ⟨cb, h1, rfl⟩ := h
      simp only [bare, ihb _ h1]
    · split at h
      · simp only [Option.bind_eq_some_iff, Option.map_eq_some_iff] at h
        obtain ⟨ca, h1, cb, h2, rfl⟩ := h
        simp only [bare, iha _ h1, ihb _ h2]
      · cases h
  | cond c a b iha ihb =>
    intro p h
    simp only [prepS] at h
    split at h
    · simp only [Option.bind_eq_some_iff, Option.map_eq_some_iff] at h
      obtain ⟨ca, h1, cb, h2, rfl⟩ := h
      simp only [bare, iha _ h1, ihb _ h2]
    · cases h
  | goto l => intro p h; simp only [prepS, Option.some.injEq] at h; subst h; rfl
  | _ => intro p h; simp only [prepS] at h; exact leaf _ _ h
theorem prepS_head {pr : Nat → Bool} {c : Code} {g : Nat} {ps ws : List Nat} {a b : C} : prepS pr c ≠ some (.uncons g ps ws a b) := by
  intro h
  cases c with
  | seq x y =>
    simp only [prepS] at h
    split at h
    · simp only [Option.map_eq_some_iff] at h
      obtain ⟨cb, _, h⟩ := h
      cases h
    · split at h
      · simp only [Option.bind_eq_some_iff, Option.map_eq_some_iff] at h
        obtain ⟨ca, _, cb, _, h⟩ := h
        cases h
      · cases h
  | cond t x y =>
    simp only [prepS] at h
    split at h
    · simp only [Option.bind_eq_some_iff, Option.map_eq_some_iff] at h
      obtain ⟨ca, _, cb, _, h⟩ := h
      cases h
    · cases h
  | goto l => simp only [prepS, Option.some.injEq] at h; cases h
  | _ =>
    simp only [prepS, Option.bind_eq_some_iff] at h
    obtain ⟨cc, h1, h2⟩ := h
    split at h2
    · cases h2; exact prep_head h1
    · cases h2
theorem free_exits : ∀ (c : C) (i : Nat), i ∈ free c → i ∈ exits c := by
  intro c
  induction c with
  | seq a b iha ihb => intro i h; simp only [exits, free, List.mem_append] at h ⊢; exact h.imp (iha i) (ihb i)
  | cond c a b iha ihb => intro i h; simp only [exits, free, List.mem_append] at h ⊢; exact h.imp (iha i) (ihb i)
  | block k a iha => intro i h; simp only [exits, free, List.mem_filter] at h ⊢; exact iha i h.1
  | loop f a iha => intro i h; simp only [exits, free] at h ⊢; exact iha i h
  | cseq f a b iha ihb => intro i h; simp only [exits, free, List.mem_append] at h ⊢; exact h.imp (iha i) (ihb i)
  | uncons g ps ws a b iha ihb => intro i h; simp only [exits, free, List.mem_append] at h ⊢; exact h.imp (iha i) (ihb i)
  | _ => intro i h; exact h
theorem prepS_free {pr : Nat → Bool} : ∀ (c : Code) (p : C), prepS pr c = some p → ∀ i ∈ free p, i < 3000000 ∨ ∃ l, i = gId l := by
  intro c
  have leaf : ∀ c p, ((prep pr c).bind fun cc => if (exits cc).all fun i => Nat.blt i 3000000 then some cc else none) = some p → ∀ i ∈ free p, i < 3000000 ∨ ∃ l, i = gId l := by
    intro c p h i hi
    simp only [Option.bind_eq_some_iff] at h
    obtain ⟨cc, h1, h2⟩ := h
    split at h2
    · rename_i hall
      cases h2
      have := List.all_eq_true.1 hall i (free_exits _ _ hi)
      exact .inl (by simpa [Nat.blt_eq] using this)
    · cases h2
  induction c with
  | seq a b iha ihb =>
    intro p h i hi
    simp only [prepS] at h
    split at h
    · simp only [Option.map_eq_some_iff] at h
      obtain ⟨cb, h1, rfl⟩ := h
      simp only [free, List.mem_filter, List.mem_append, List.mem_singleton] at hi
      obtain ⟨⟨hi | hi, _⟩, h3⟩ := hi
      · exact ihb _ h1 i hi
      · subst hi; simp at h3
    · split at h
      · simp only [Option.bind_eq_some_iff, Option.map_eq_some_iff] at h
        obtain ⟨ca, h1, cb, h2, rfl⟩ := h
        simp only [free, List.mem_append] at hi
        exact hi.elim (iha _ h1 i) (ihb _ h2 i)
      · cases h
  | cond c a b iha ihb =>
    intro p h i hi
    simp only [prepS] at h
    split at h
    · simp only [Option.bind_eq_some_iff, Option.map_eq_some_iff] at h
      obtain ⟨ca, h1, cb, h2, rfl⟩ := h
      simp only [free, List.mem_append] at hi
      exact hi.elim (iha _ h1 i) (ihb _ h2 i)
    · cases h
  | goto l =>
    intro p h i hi
    simp only [prepS, Option.some.injEq] at h
    subst h
    simp only [free, List.mem_singleton] at hi
    exact .inr ⟨l, hi⟩
  | _ => intro p h; simp only [prepS] at h; exact leaf _ _ h
theorem pc_sound {pr : Nat → Bool} {cfg : Cfg} {call : CallF} (hm : cfg.P.follows .mixedOrders = true) (hp : PureOK cfg.P call.pc) (hi : ImpOK cfg.P call.ic) (hsq : SeqOK cfg.P cfg.seqp) {n n0 : Nat} :
    ∀ (c : Code) (cc : C) (s : S) (x : Ex) (s' : S), prepS pr c = some (bare cc) → spineL c = [] → exec cfg call n n0 cc s = some (x, s') → ∀ (a : Act) (w : World) (Z : Zs) (j : J), St Z w j s.env a → SR cfg.P Z w j s.mem →
      ∀ (Q : Exit → Act → World → Prop), (∀ a' w', AfterC cfg.P n0 Z w j s.mem s' a' w' → KeptC (wrs cc) w a a' w' → Q (toG x) a' w') → ∀ (m : Nat), c.wpIn (FR none) m cfg.P Q a w := by
  intro c
  have leaf : ∀ (c : Code) (cc : C) (s : S) (x : Ex) (s' : S), ((prep pr c).bind fun cc => if (exits cc).all fun i => Nat.blt i 3000000 then some cc else none) = some (bare cc) → exec cfg call n n0 cc s = some (x, s') → ∀ (a : Act) (w : World) (Z : Zs) (j : J), St Z w j s.env a → SR cfg.P Z w j s.mem →
      ∀ (Q : Exit → Act → World → Prop), (∀ a' w', AfterC cfg.P n0 Z w j s.mem s' a' w' → KeptC (wrs cc) w a a' w' → Q (toG x) a' w') → ∀ (m : Nat), c.wpIn (FR none) m cfg.P Q a w := by
    intro c cc s x s' hc h a w Z j st sr Q hQ m
    simp only [Option.bind_eq_some_iff] at hc
    obtain ⟨c1, h1, h2⟩ := hc
    split at h2
    rotate_left
    · cases h2
    rename_i hall
    have e1 : c1 = bare cc := Option.some.inj h2
    rw [e1] at h1 hall
    have hx : ∀ i, x = .exit i → i < 3000000 := fun i hi => by
      subst hi
      have := List.all_eq_true.1 hall i (exits_bare_le _ _ (exec_exits _ _ _ _ h))
      simpa [Nat.blt_eq] using this
    refine exec_sound hm hp hi hsq c none cc s x s' h1 (fun e => (e rfl).elim) h a w Z j st sr Q (fun a' w' g1 g2 => ?_) m
    rw [← toG_of hx]
    exact hQ a' w' g1 g2
  induction c with
  | seq p q ihp ihq =>
    intro cc s x s' hc hsp h a w Z j st sr Q hQ m
    simp only [spineL, List.append_eq_nil_iff] at hsp
    simp only [prepS] at hc
    split at hc
    · rename_i l hl
      cases p <;> simp [isLab] at hl
      simp [spineL] at hsp
    rw [if_pos (by rw [hsp.1]; rfl)] at hc
    simp only [Option.bind_eq_some_iff, Option.map_eq_some_iff] at hc
    obtain ⟨cp, hcp, cq, hcq, hcc⟩ := hc
    cases cc <;> simp [bare] at hcc
    rotate_left
    · rename_i fl ca cb
      obtain ⟨hc1, rfl⟩ := hcc
      have hst0 : isStart ca = false := by
        cases hh : isStart ca with
        | false => rfl
        | true => rw [hh] at hc1; exact absurd (hcp.trans (congrArg some hc1)) prepS_head
      rw [hst0] at hc1
      have hcp : prepS pr p = some (bare ca) := by rw [hcp, hc1]; rfl
      simp only [exec] at h
      cases h1 : exec cfg call n n0 ca s with
      | none => simp [h1] at h
      | some r =>
        obtain ⟨x1, s1⟩ := r
        simp only [h1, Option.bind_some] at h
        refine wpIn_seq (ihp ca s x1 s1 hcp hsp.1 h1 a w Z j st sr _ (fun a1 w1 haf hk => ?_) m)
        cases x1 with
        | norm =>
          obtain ⟨Z1, j1, q1, q2, q3, q4⟩ := haf
          obtain ⟨j2, t1, t2, t3, t4⟩ := clean_sound n0 fl q1 q2
          refine ihq cb (clean n0 fl s1) x s' hcq hsp.2 h a1 w1 Z1 j2 t1 t2 Q (fun a' w' h' hk' => ?_) m
          obtain ⟨Z2, j3, r1, r2, r3, r4⟩ := h'
          exact hQ a' w' ⟨Z2, j3, r1, r2, (q3.trans t3).trans r3, (q4.trans t4).trans r4⟩ (hk.trans q2 (t3.trans r3) q3.size hk')
        | exit i =>
          cases h
          have := hQ a1 w1 haf (hk.weak fun i hi => List.mem_append.2 (.inl hi))
          simp only [toG] at this ⊢
          split at this <;> rename_i hlt
          · simp only [if_pos hlt]; exact this
          · simp only [if_neg hlt]; exact this
        | ret => cases h; exact hQ a1 w1 haf (hk.weak fun i hi => List.mem_append.2 (.inl hi))
    rename_i ca cb
    obtain ⟨rfl, rfl⟩ := hcc
    simp only [exec] at h
    cases h1 : exec cfg call n n0 ca s with
    | none => simp [h1] at h
    | some r =>
      obtain ⟨x1, s1⟩ := r
      simp only [h1, Option.bind_some] at h
      refine wpIn_seq (ihp ca s x1 s1 hcp hsp.1 h1 a w Z j st sr _ (fun a1 w1 haf hk => ?_) m)
      cases x1 with
      | norm =>
        obtain ⟨Z1, j1, q1, q2, q3, q4⟩ := haf
        refine ihq cb s1 x s' hcq hsp.2 h a1 w1 Z1 j1 q1 q2 Q (fun a' w' h' hk' => ?_) m
        obtain ⟨Z2, j2, r1, r2, r3, r4⟩ := h'
        exact hQ a' w' ⟨Z2, j2, r1, r2, q3.trans r3, q4.trans r4⟩ (hk.trans q2 r3 q3.size hk')
      | exit i =>
        cases h
        have := hQ a1 w1 haf (hk.weak fun i hi => List.mem_append.2 (.inl hi))
        simp only [toG] at this ⊢
        split at this <;> rename_i hlt
        · simp only [if_pos hlt]; exact this
        · simp only [if_neg hlt]; exact this
      | ret => cases h; exact hQ a1 w1 haf (hk.weak fun i hi => List.mem_append.2 (.inl hi))
  | cond cnd p q ihp ihq =>
    intro cc s x s' hc hsp h a w Z j st sr Q hQ m
    simp only [prepS] at hc
    split at hc
    rotate_left
    · cases hc
    rename_i hsp
    simp only [Bool.and_eq_true, List.isEmpty_iff] at hsp
    simp only [Option.bind_eq_some_iff, Option.map_eq_some_iff] at hc
    obtain ⟨cp, hcp, cq, hcq, hcc⟩ := hc
    cases cc <;> simp [bare] at hcc
    rename_i c0 ca cb
    obtain ⟨rfl, rfl, rfl⟩ := hcc
    simp only [exec] at h
    cases h1 : evalO s.env cnd with
    | none => simp [h1] at h
    | some v =>
      have hv := st.eval cnd v h1
      cases v <;> simp only [h1, Option.bind_some] at h <;> first | (cases h; done) | skip
      rename_i t
      cases hu : a.eval cnd <;> rw [hu] at hv <;> cases hv
      cases t
      · exact wpIn_cond hu (ihq cb s x s' hcq hsp.2 (by simpa using h) a w Z j st sr Q (fun a' w' h1 h2 => hQ a' w' h1 (h2.weak fun i hi => List.mem_append.2 (.inr hi))) m)
      · exact wpIn_cond hu (ihp ca s x s' hcp hsp.1 (by simpa using h) a w Z j st sr Q (fun a' w' h1 h2 => hQ a' w' h1 (h2.weak fun i hi => List.mem_append.2 (.inl hi))) m)
  | goto l =>
    intro cc s x s' hc hsp h a w Z j st sr Q hQ m
    cases cc <;> simp [prepS, bare] at hc
    subst hc
    simp [exec] at h
    obtain ⟨rfl, rfl⟩ := h
    have := hQ a w ⟨Z, j, st, sr, Stp.refl _ _ _ _, JK.refl _ _⟩ (KeptC.refl _ _ _ _)
    rw [toG_g] at this
    exact wpIn_goto this
  | _ => intro cc s x s' hc hsp h; simp only [prepS] at hc; exact leaf _ cc s x s' hc h
theorem sc_sound {pr : Nat → Bool} {cfg : Cfg} {call : CallF} (hm : cfg.P.follows .mixedOrders = true) (hp : PureOK cfg.P call.pc) (hi : ImpOK cfg.P call.ic) (hsq : SeqOK cfg.P cfg.seqp) {n n0 : Nat} {c0 : Code} :
    ∀ (c : Code) (cc : C) (s : S) (x : Ex) (s' : S), prepS pr c = some (bare cc) → (spineL c).Nodup → (∀ l ∈ spineL c, findLabel c0 l = findLabel c l) → exec cfg call n n0 cc s = some (x, s') → ∀ (a : Act) (w : World) (Z : Zs) (j : J), St Z w j s.env a → SR cfg.P Z w j s.mem →
      ∀ (Q : Exit → Act → World → Prop), (∀ a' w', AfterC cfg.P n0 Z w j s.mem s' a' w' → KeptC (wrs cc) w a a' w' → Q (toG x) a' w') → ∀ (m : Nat), wpS (FR none) m cfg.P c0 c Q a w := by
  intro c
  induction c with
  | seq p q _ ihq =>
    intro cc s x s' hc hnd hlab h a w Z j st sr Q hQ m
    cases hl : isLab p with
    | none =>
      have hc0 := hc
      simp only [prepS, hl] at hc
      split at hc
      rotate_left
      · cases hc
      rename_i hpe
      have hpe : spineL p = [] := by simpa using hpe
      simp only [Option.bind_eq_some_iff, Option.map_eq_some_iff] at hc
      obtain ⟨cp, hcp, cq, hcq, hcc⟩ := hc
      have hnd' : (spineL q).Nodup := by simpa [spineL, hpe] using hnd
      have hlab' : ∀ l ∈ spineL q, findLabel c0 l = findLabel q l := fun l hl => by
        rw [hlab l (by simp [spineL, hpe, hl])]
        have : findLabel p l = none := findLabel_none (by rw [hpe]; simp)
        simp only [findLabel, this]
      cases cc <;> simp [bare] at hcc
      rotate_left
      · rename_i fl ca cb
        obtain ⟨hc1, rfl⟩ := hcc
        have hst0 : isStart ca = false := by
          cases hh : isStart ca with
          | false => rfl
          | true => rw [hh] at hc1; exact absurd (hcp.trans (congrArg some hc1)) prepS_head
        rw [hst0] at hc1
        have hcp : prepS pr p = some (bare ca) := by rw [hcp, hc1]; rfl
        simp only [exec] at h
        cases h1 : exec cfg call n n0 ca s with
        | none => simp [h1] at h
        | some r =>
          obtain ⟨x1, s1⟩ := r
          simp only [h1, Option.bind_some] at h
          refine wpS_seq (pc_sound hm hp hi hsq p ca s x1 s1 hcp hpe h1 a w Z j st sr _ (fun a1 w1 haf hk => ?_) m)
          cases x1 with
          | norm =>
            obtain ⟨Z1, j1, q1, q2, q3, q4⟩ := haf
            obtain ⟨j2, t1, t2, t3, t4⟩ := clean_sound n0 fl q1 q2
            refine ihq cb (clean n0 fl s1) x s' hcq hnd' hlab' h a1 w1 Z1 j2 t1 t2 Q (fun a' w' h' hk' => ?_) m
            obtain ⟨Z2, j3, r1, r2, r3, r4⟩ := h'
            exact hQ a' w' ⟨Z2, j3, r1, r2, (q3.trans t3).trans r3, (q4.trans t4).trans r4⟩ (hk.trans q2 (t3.trans r3) q3.size hk')
          | exit i =>
            cases h
            have := hQ a1 w1 haf (hk.weak fun i hi => List.mem_append.2 (.inl hi))
            simp only [toG] at this ⊢
            split at this <;> rename_i hlt
            · simp only [if_pos hlt]; exact this
            · simp only [if_neg hlt]; exact this
          | ret => cases h; exact hQ a1 w1 haf (hk.weak fun i hi => List.mem_append.2 (.inl hi))
      rename_i ca cb
      obtain ⟨rfl, rfl⟩ := hcc
      simp only [exec] at h
      cases h1 : exec cfg call n n0 ca s with
      | none => simp [h1] at h
      | some r =>
        obtain ⟨x1, s1⟩ := r
        simp only [h1, Option.bind_some] at h
        refine wpS_seq (pc_sound hm hp hi hsq p ca s x1 s1 hcp hpe h1 a w Z j st sr _ (fun a1 w1 haf hk => ?_) m)
        cases x1 with
        | norm =>
          obtain ⟨Z1, j1, q1, q2, q3, q4⟩ := haf
          refine ihq cb s1 x s' hcq hnd' hlab' h a1 w1 Z1 j1 q1 q2 Q (fun a' w' h' hk' => ?_) m
          obtain ⟨Z2, j2, r1, r2, r3, r4⟩ := h'
          exact hQ a' w' ⟨Z2, j2, r1, r2, q3.trans r3, q4.trans r4⟩ (hk.trans q2 r3 q3.size hk')
        | exit i =>
          cases h
          have := hQ a1 w1 haf (hk.weak fun i hi => List.mem_append.2 (.inl hi))
          simp only [toG] at this ⊢
          split at this <;> rename_i hlt
          · simp only [if_pos hlt]; exact this
          · simp only [if_neg hlt]; exact this
        | ret => cases h; exact hQ a1 w1 haf (hk.weak fun i hi => List.mem_append.2 (.inl hi))
    | some l =>
      simp only [prepS, hl, Option.map_eq_some_iff] at hc
      obtain ⟨cq, hcq, hcc⟩ := hc
      have hpl : p = .label l := by cases p <;> simp [isLab] at hl; rw [hl]
      subst hpl
      have hnd1 : l ∉ spineL q ∧ (spineL q).Nodup := by simpa [spineL] using hnd
      have hlab' : ∀ l' ∈ spineL q, findLabel c0 l' = findLabel q l' := fun l' hl' => by
        rw [hlab l' (by simp [spineL, hl'])]
        have : findLabel (.label l) l' = none := findLabel_none (by simp [spineL]; intro e; exact hnd1.1 (e ▸ hl'))
        simp only [findLabel] at this ⊢
        rw [this]
      have hfl : findLabel c0 l = some (.seq .skip q) := by
        rw [hlab l (by simp [spineL])]
        simp [findLabel]
      cases cc <;> simp [bare] at hcc
      rename_i e1 c1
      obtain ⟨rfl, hcc⟩ := hcc
      cases c1 <;> simp [bare] at hcc
      rename_i fl c2
      cases c2 <;> simp [bare] at hcc
      rename_i g1 c3
      obtain ⟨rfl, hcc⟩ := hcc
      have shape : ∃ ca, prepS pr q = some (bare ca) ∧ (∀ i, i ∈ wrs ca → i ∈ wrs (.block (eId l) (.loop fl (.block (gId l) c3)))) ∧ ∀ s r, exec cfg call n n0 c3 s = some r → ∃ y t, exec cfg call n n0 ca s = some (y, t) ∧
          ((y = .norm ∧ r.1 = .exit (eId l) ∧ (r.2 = t ∨ ∃ f, r.2 = clean n0 f t)) ∨ (y ≠ .norm ∧ r = (y, t))) := by
        cases c3 <;> simp [bare] at hcc
        · rename_i ca cb
          obtain ⟨rfl, hcb⟩ := hcc
          cases cb <;> simp [bare] at hcb
          subst hcb
          refine ⟨ca, hcq, fun i hi => by simp only [wrs, List.append_nil]; exact hi, fun s r hr => ?_⟩
          simp only [exec, Option.bind_eq_some_iff] at hr
          obtain ⟨⟨y, t⟩, g1, g2⟩ := hr
          refine ⟨y, t, g1, ?_⟩
          cases y with
          | norm => cases g2; exact .inl ⟨rfl, rfl, .inl rfl⟩
          | exit i => cases g2; exact .inr ⟨by simp, rfl⟩
          | ret => cases g2; exact .inr ⟨by simp, rfl⟩
        · rename_i f2 ca cb
          obtain ⟨hc1, hcb⟩ := hcc
          cases cb <;> simp [bare] at hcb
          subst hcb
          have hst0 : isStart ca = false := by
            cases hh : isStart ca with
            | false => rfl
            | true => rw [hh] at hc1; exact absurd (hcq.trans (congrArg some hc1)) prepS_head
          rw [hst0] at hc1
          refine ⟨ca, by rw [hcq, hc1]; rfl, fun i hi => by simp only [wrs, List.append_nil]; exact hi, fun s r hr => ?_⟩
          simp only [exec, Option.bind_eq_some_iff] at hr
          obtain ⟨⟨y, t⟩, g1, g2⟩ := hr
          refine ⟨y, t, g1, ?_⟩
          cases y with
          | norm => cases g2; exact .inl ⟨rfl, rfl, .inr ⟨f2, rfl⟩⟩
          | exit i => cases g2; exact .inr ⟨by simp, rfl⟩
          | ret => cases g2; exact .inr ⟨by simp, rfl⟩
      obtain ⟨ca, hca, hwr, hsh⟩ := shape
      have hge : gId l ≠ eId l := by unfold gId eId; omega
      have key : ∀ (k : Nat) (s : S) (x1 : Ex) (s1 : S), iter (fun s => exec cfg call n n0 (.block (gId l) c3) (clean n0 fl s)) k s = some (x1, s1) → ∀ (a : Act) (w : World) (Z : Zs) (j : J), St Z w j s.env a → SR cfg.P Z w j s.mem →
          ∀ (Q : Exit → Act → World → Prop), (∀ a' w', AfterC cfg.P n0 Z w j s.mem (clean n0 fl s1) a' w' → KeptC (wrs (.block (eId l) (.loop fl (.block (gId l) c3)))) w a a' w' → Q (outE l x1) a' w') → wpS (FR none) m cfg.P c0 q Q a w := by
        intro k
        induction k with
        | zero => intro s x1 s1 h; simp [iter] at h
        | succ k ihk =>
          intro s x1 s1 h a w Z j st sr Q hQ
          simp only [iter, Option.bind_eq_some_iff] at h
          obtain ⟨⟨x2, s2⟩, hb, h⟩ := h
          simp only [exec, Option.map_eq_some_iff] at hb
          obtain ⟨r, hr, hb⟩ := hb
          obtain ⟨y, t, hy, hcase⟩ := hsh _ _ hr
          obtain ⟨j0', t1, t2, t3, t4⟩ := clean_sound n0 fl st sr
          refine wpS_jump hfl (ihq ca _ y t hca hnd1.2 hlab' hy a w Z j0' t1 t2 _ (fun a2 w2 haf hk => ?_) m)
          have hk := hk.weak hwr
          have last : ∀ (t' : S), (t' = t ∨ ∃ f, t' = clean n0 f t) → s1 = t' → Q (outE l x1) a2 w2 := by
            intro t' ht' es
            obtain ⟨Z1, j1, q1, q2, q3, q4⟩ := haf
            have : ∃ j2, St Z1 w2 j2 t'.env a2 ∧ SR cfg.P Z1 w2 j2 t'.mem ∧ Stp Z1 w2 j1 t.mem Z1 w2 j2 t'.mem ∧ JK n0 j1 j2 := by
              rcases ht' with rfl | ⟨f, rfl⟩
              · exact ⟨j1, q1, q2, Stp.refl _ _ _ _, JK.refl _ _⟩
              · exact clean_sound n0 f q1 q2
            obtain ⟨j2, p1, p2, p3, p4⟩ := this
            obtain ⟨j3, r1, r2, r3, r4⟩ := clean_sound n0 fl p1 p2
            subst es
            exact hQ a2 w2 ⟨Z1, j3, r1, r2, (((t3.trans q3).trans p3).trans r3), ((t4.trans q4).trans p4).trans r4⟩ hk
          rcases hcase with ⟨rfl, hr1, hr2⟩ | ⟨hyn, rfl⟩
          · -- to the end
            obtain ⟨r1, r2⟩ := r
            simp only at hr1 hr2
            subst hr1
            simp only at hb
            rw [if_neg (Ne.symm hge)] at hb
            cases hb
            cases h
            have := last _ hr2 rfl
            simp only [outE, if_true] at this
            exact this
          · cases y with
            | norm => exact (hyn rfl).elim
            | ret =>
              cases hb
              cases h
              exact last _ (.inl rfl) rfl
            | exit i =>
              simp only at hb
              split at hb
              · -- once more
                rename_i hig
                subst hig
                cases hb
                rw [toG_g]
                simp only [if_true]
                obtain ⟨Z1, j1, q1, q2, q3, q4⟩ := haf
                refine wpS_seq (wpIn_skip (ihk _ x1 s1 h a2 w2 Z1 j1 q1 q2 Q fun a' w' h' hk' => ?_))
                obtain ⟨Z2, j2, r1, r2, r3, r4⟩ := h'
                exact hQ a' w' ⟨Z2, j2, r1, r2, (t3.trans q3).trans r3, (t4.trans q4).trans r4⟩ ((hk.trans q2 r3 q3.size hk').weak fun i hi => (List.mem_append.1 hi).elim id id)
              · rename_i hig
                cases hb
                cases h
                by_cases hie : i = eId l
                · rcases prepS_free _ _ hca i (by rw [free_bare]; exact exec_free _ _ _ _ hy) with hlt | ⟨l', hl'⟩
                  · unfold eId at hie; omega
                  · unfold eId at hie; unfold gId at hl'; omega
                · have := last _ (.inl rfl) rfl
                  simp only [outE, if_neg hie, toG] at this
                  simp only [toG]
                  split at this <;> rename_i hlt
                  · simp only [if_pos hlt]; exact this
                  · simp only [if_neg hlt]
                    have hne : ¬ ((i - 3000000) / 2 = l) := by
                      rcases prepS_free _ _ hca i (by rw [free_bare]; exact exec_free _ _ _ _ hy) with hlt2 | ⟨l', hl'⟩
                      · omega
                      · unfold gId at hl' hig; omega
                    simp only [if_neg hne]
                    exact this
      simp only [exec, Option.map_eq_some_iff] at h
      obtain ⟨⟨y, t⟩, ⟨⟨x0, s0⟩, hit, hr⟩, h⟩ := h
      have hr1 : x0 = y := congrArg Prod.fst hr
      have hr2 : clean n0 fl s0 = t := congrArg Prod.snd hr
      subst hr1 hr2
      refine wpS_seq (wpIn_label (key n s x0 s0 hit a w Z j st sr Q fun a' w' haf hk => ?_))
      cases x0 with
      | norm => cases h; exact hQ a' w' haf hk
      | ret => cases h; exact hQ a' w' haf hk
      | exit i =>
        simp only at h
        split at h
        · rename_i e; cases h; simp only [outE, if_pos e]; exact hQ a' w' haf hk
        · rename_i e; cases h; simp only [outE, if_neg e]; exact hQ a' w' haf hk
  | _ =>
    intro cc s x s' hc hnd hlab h a w Z j st sr Q hQ m
    first
    | exact wpS_of (pc_sound hm hp hi hsq _ cc s x s' hc rfl h a w Z j st sr Q hQ m)
    | (simp [prepS, prep] at hc)
theorem scOf_eq {c r c0 : Code} (h : scOf c = some (r, c0)) : c = .seq r (.scope c0) := by
  unfold scOf at h
  split at h
  · cases h; rfl
  · cases h
theorem prepF_bare {pr : Nat → Bool} {c : Code} {p : C} (h : prepF pr c = some p) : bare p = p := by
  unfold prepF at h
  split at h
  · simp only [Option.bind_eq_some_iff] at h
    obtain ⟨cr, h1, cs, h2, h3⟩ := h
    split at h3
    · cases h3; simp only [bare, prep_bare _ _ h1, prepS_bare _ _ h2]
    · cases h3
  · exact prep_bare _ _ h
theorem body_sound {pr : Nat → Bool} {cfg : Cfg} {call : CallF} (hm : cfg.P.follows .mixedOrders = true) (hp : PureOK cfg.P call.pc) (hi : ImpOK cfg.P call.ic) (hsq : SeqOK cfg.P cfg.seqp) {n n0 : Nat}
    (c : Code) (cc : C) (s : S) (x : Ex) (s' : S) (hc : prepF pr c = some (bare cc)) (h : exec cfg call n n0 cc s = some (x, s')) (a : Act) (w : World) (Z : Zs) (j : J) (st : St Z w j s.env a) (sr : SR cfg.P Z w j s.mem)
    (Q : Exit → Act → World → Prop) (hQ : ∀ a' w', AfterC cfg.P n0 Z w j s.mem s' a' w' → KeptC (wrs cc) w a a' w' → Q x.toExit a' w') (m : Nat) : c.wpIn (FR none) m cfg.P Q a w := by
  unfold prepF at hc
  split at hc
  rotate_left
  · exact exec_sound hm hp hi hsq c none cc s x s' hc (fun e => (e rfl).elim) h a w Z j st sr Q hQ m
  rename_i r c0 hsc
  have := scOf_eq hsc
  subst this
  simp only [Option.bind_eq_some_iff] at hc
  obtain ⟨cr, hcr, cs, hcs, hc⟩ := hc
  split at hc
  rotate_left
  · cases hc
  rename_i hok
  simp only [scOk, Bool.and_eq_true, decide_eq_true_eq] at hok
  obtain ⟨hnd, hfree⟩ := hok
  have hc := Option.some.inj hc
  have tail : ∀ (cb : C) (s : S) (x : Ex) (s' : S), cs = bare cb → exec cfg call n n0 cb s = some (x, s') → ∀ (a : Act) (w : World) (Z : Zs) (j : J), St Z w j s.env a → SR cfg.P Z w j s.mem →
      ∀ (Q : Exit → Act → World → Prop), (∀ a' w', AfterC cfg.P n0 Z w j s.mem s' a' w' → KeptC (wrs cb) w a a' w' → Q x.toExit a' w') → (Code.scope c0).wpIn (FR none) m cfg.P Q a w := by
    intro cb s x s' e h a w Z j st sr Q hQ
    have hx : ∀ i, x = .exit i → i < 3000000 := fun i hi => by
      subst hi
      have h1 := exec_free _ _ _ _ h
      rw [← free_bare, ← e] at h1
      have := List.all_eq_true.1 hfree i h1
      simpa [Nat.blt_eq] using this
    refine wpIn_scope (sc_sound hm hp hi hsq c0 cb s x s' (hcs.trans (congrArg some e)) hnd (fun _ _ => rfl) h a w Z j st sr _ (fun a' w' g1 g2 => ?_) m)
    rw [toG_of hx]
    refine ⟨fun l e => ?_, hQ a' w' g1 g2⟩
    cases x <;> cases e
  cases cc with
  | cseq fl ca cb =>
    simp only [bare, C.seq.injEq] at hc
    obtain ⟨hc1, hcb⟩ := hc
    have hst0 : isStart ca = false := by
      cases hh : isStart ca with
      | false => rfl
      | true => rw [hh] at hc1; exact absurd (hcr.trans (congrArg some hc1)) prep_head
    rw [hst0] at hc1
    have hcp : prep pr r = some (bare ca) := by rw [hcr, hc1]; rfl
    simp only [exec] at h
    cases h1 : exec cfg call n n0 ca s with
    | none => simp [h1] at h
    | some q =>
      obtain ⟨x1, s1⟩ := q
      simp only [h1, Option.bind_some] at h
      refine wpIn_seq (exec_sound hm hp hi hsq r none ca s x1 s1 hcp (fun e => (e rfl).elim) h1 a w Z j st sr _ (fun a1 w1 haf hk => ?_) m)
      cases x1 with
      | norm =>
        obtain ⟨Z1, j1, q1, q2, q3, q4⟩ := haf
        obtain ⟨j2, t1, t2, t3, t4⟩ := clean_sound n0 fl q1 q2
        refine tail cb (clean n0 fl s1) x s' hcb h a1 w1 Z1 j2 t1 t2 Q (fun a' w' h' hk' => ?_)
        obtain ⟨Z2, j3, r1, r2, r3, r4⟩ := h'
        exact hQ a' w' ⟨Z2, j3, r1, r2, (q3.trans t3).trans r3, (q4.trans t4).trans r4⟩ (hk.trans q2 (t3.trans r3) q3.size hk')
      | exit i => cases h; exact hQ a1 w1 haf (hk.weak fun i hi => List.mem_append.2 (.inl hi))
      | ret => cases h; exact hQ a1 w1 haf (hk.weak fun i hi => List.mem_append.2 (.inl hi))
  | seq ca cb =>
    simp only [bare, C.seq.injEq] at hc
    obtain ⟨hca, hcb⟩ := hc
    simp only [exec] at h
    cases h1 : exec cfg call n n0 ca s with
    | none => simp [h1] at h
    | some q =>
      obtain ⟨x1, s1⟩ := q
      simp only [h1, Option.bind_some] at h
      refine wpIn_seq (exec_sound hm hp hi hsq r none ca s x1 s1 (hcr.trans (congrArg some hca)) (fun e => (e rfl).elim) h1 a w Z j st sr _ (fun a1 w1 haf hk => ?_) m)
      cases x1 with
      | norm =>
        obtain ⟨Z1, j1, q1, q2, q3, q4⟩ := haf
        refine tail cb s1 x s' hcb h a1 w1 Z1 j1 q1 q2 Q (fun a' w' h' hk' => ?_)
        obtain ⟨Z2, j2, r1, r2, r3, r4⟩ := h'
        exact hQ a' w' ⟨Z2, j2, r1, r2, q3.trans r3, q4.trans r4⟩ (hk.trans q2 r3 q3.size hk')
      | exit i => cases h; exact hQ a1 w1 haf (hk.weak fun i hi => List.mem_append.2 (.inl hi))
      | ret => cases h; exact hQ a1 w1 haf (hk.weak fun i hi => List.mem_append.2 (.inl hi))
  | _ => simp [bare] at hc
def resF (a : Act) : ResultVar → Sem Value
  | .tmp t => pure (a.tmps.getD t undef)
  | .cell b t => do loadVar t (← asAddr (a.tmps.getD b undef))
theorem results_sound {fn : Func} {s : S} {a : Act} {vs : List V} (st : St Z w j s.env a) (sr : SR P Z w j s.mem)
    (h : mapO (resV P s) (fn.results.toList.map toRV) = some vs) :
    ∃ us : List Value, us.length = vs.length ∧ (∀ (i : Nat) (v : V) (u : Value), vs[i]? = some v → us[i]? = some u → VR Z w j v u) ∧
      (results fn a.tmps).run P w = .ok (if h : us.toArray.size = 1 then us.toArray[0] else .tuple us.toArray) w := by
  have key : ∀ (l : List ResultVar) (vs : List V), mapO (resV P s) (l.map toRV) = some vs →
      ∃ us : List Value, us.length = vs.length ∧ (∀ (i : Nat) (v : V) (u : Value), vs[i]? = some v → us[i]? = some u → VR Z w j v u) ∧
        (l.mapM (m := Sem) (resF a)).run P w = .ok us w := by
    intro l
    induction l with
    | nil => intro vs h; simp [mapO] at h; subst h; exact ⟨[], rfl, fun i v u h => by simp at h, rfl⟩
    | cons r l ih =>
      intro vs h
      simp only [List.map_cons, mapO] at h
      cases h2 : mapO (resV P s) (l.map toRV) with
      | none => cases h1 : resV P s (toRV r) <;> simp [h1, h2] at h
      | some ws =>
        obtain ⟨us, e1, e2, e3⟩ := ih ws h2
        have fin : ∀ (v : V) (u : Value), vs = v :: ws → VR Z w j v u → (resF a r).run P w = .ok u w →
            ∃ us : List Value, us.length = vs.length ∧ (∀ (i : Nat) (v : V) (u : Value), vs[i]? = some v → us[i]? = some u → VR Z w j v u) ∧
              ((r :: l).mapM (m := Sem) (resF a)).run P w = .ok us w := by
          intro v u hvs hv hr
          subst hvs
          refine ⟨u :: us, by simp [e1], fun i v' u' hv' hu' => ?_, ?_⟩
          · cases i with
            | zero => simp at hv' hu'; subst hv' hu'; exact hv
            | succ i => exact e2 i v' u' (by simpa using hv') (by simpa using hu')
          · simp only [List.mapM_cons, Sem.run_bind, hr, Result.andThen_ok, e3, Sem.run_pure]
        cases r with
        | tmp t =>
          simp only [toRV, resV] at h
          cases h1 : s.env[t]? with
          | none => simp [h1] at h
          | some v =>
            simp [h1, h2] at h
            obtain ⟨u, hu, hv⟩ := st.val t v h1
            exact fin v u h.symm hv (by simp [resF, Array.getD_eq_getD_getElem?, hu])
        | cell b t =>
          simp only [toRV, resV] at h
          cases h1 : s.env[b]? with
          | none => simp [h1] at h
          | some p =>
            cases hl : loadM P s.mem t p with
            | none => simp [h1, hl] at h
            | some v =>
              simp [h1, hl, h2] at h
              obtain ⟨u, hu, hv⟩ := st.val b p h1
              obtain ⟨u', h3, h4⟩ := load_sound sr hl hv
              refine fin v u' h.symm h4 ?_
              have hp : ∃ ad, u = .pointer (some ad) := by
                unfold loadM at hl
                cases hlk : look s.mem p with
                | none => simp [hlk] at hl
                | some r =>
                  obtain ⟨x, off⟩ := r
                  obtain ⟨g, b', hu', _⟩ := look_sound sr hlk hv
                  exact ⟨_, hu'⟩
              obtain ⟨ad, rfl⟩ := hp
              simp only [Instr.loadAt, Instr.sureAddr, Sem.run_bind, Sem.run_pure, Result.andThen_ok] at h3
              simp [resF, Array.getD_eq_getD_getElem?, hu, asAddr, h3]
  obtain ⟨us, e1, e2, e3⟩ := key fn.results.toList vs h
  refine ⟨us, e1, e2, ?_⟩
  unfold results
  rw [Array.mapM_eq_mapM_toList]
  refine Eq.trans (b := (do let vs ← List.toArray <$> List.mapM (resF a) fn.results.toList; pure (if h : vs.size = 1 then vs[0] else .tuple vs) : Sem Value).run P w) ?_ ?_
  · rfl
  simp only [Sem.run_bind, Sem.run_map, e3, Result.andThen_ok, Sem.run_pure]
theorem start_sound {args : List V} {us : List Value} {nt : Nat} (ha : VRs Z w j args us) : St Z w j (args ++ List.replicate (nt - args.length) (.tup [])) { tmps := us.toArray ++ Array.replicate (nt - us.toArray.size) undef, defers := [] } := by
  refine ⟨by simp [ha.1], fun i v hv => ?_⟩
  by_cases hi : i < args.length
  · rw [List.getElem?_append_left hi] at hv
    have hi' : i < us.length := by rw [← ha.1]; exact hi
    exact ⟨us[i], by rw [Array.getElem?_append_left (by simpa using hi')]; simp, ha.2 i v _ hv (List.getElem?_eq_getElem hi')⟩
  · rw [List.getElem?_append_right (by omega)] at hv
    have hlt := (List.getElem?_eq_some_iff.1 hv).1
    simp only [List.length_replicate] at hlt
    have e : v = .tup [] := by
      rw [List.getElem?_replicate, if_pos hlt] at hv
      exact (Option.some.inj hv).symm
    subst e
    refine ⟨undef, ?_, .tup (us := []) rfl fun i c u hc => by simp at hc⟩
    have hl := ha.1
    rw [Array.getElem?_append_right (by simp; omega)]
    simp only [List.size_toArray, Array.getElem?_replicate]
    rw [if_pos (by omega)]
theorem leaves_marks {fn : Func} {a : Act} {env : List V} {R : Ending → World → Prop} {Z0 : Zs} {w0 : World} {j0' : J} {mem0 : List O} : ∀ (Ds : List Nat) (w : World), Ds.Nodup → (∀ D ∈ Ds, w0.heap.size ≤ D ∧ w.heap[D]? = some (.deferred (some []))) →
    St Z w j env a → SR P Z w j mem → Stp Z0 w0 j0' mem0 Z w j mem →
    (∀ w', St Z w' j env a → SR P Z w' j mem → Stp Z0 w0 j0' mem0 Z w' j mem → ∃ v, (results fn a.tmps).run P w' = .ok v w' ∧ R (.returned v) w') → LeavesInM (FR none) 0 P fn a.tmps R (Ds.map mark) .returning w := by
  intro Ds
  induction Ds with
  | nil => intro w _ _ st sr stp h; exact h w st sr stp
  | cons D Ds ih =>
    intro w hn hD st sr stp h
    obtain ⟨h1, h2⟩ := hD D (by simp)
    have hne : D ∉ Ds := (List.nodup_cons.1 hn).1
    refine ⟨by simp, .inl ⟨D, _, rfl, run_takeDeferred h2, ih _ (List.nodup_cons.1 hn).2 (fun D' hD' => ?_) (st.mono (book_z h2 rfl rfl) (JExt.refl _)) (sr.book h2 rfl rfl) (stp.book h1 h2 rfl rfl) h⟩⟩
    obtain ⟨k1, k2⟩ := hD D' (by simp [hD'])
    exact ⟨k1, (World.putObj_heap_other (by rintro rfl; exact hne hD')).trans k2⟩
theorem run_sound {cfg : Cfg} {call : CallF} (hm : cfg.P.follows .mixedOrders = true) (hp : PureOK cfg.P call.pc) (hi : ImpOK cfg.P call.ic) (hsq : SeqOK cfg.P cfg.seqp) {n : Nat} {f : FuncId} {fa : FA} {args : List V} {us : List Value} {vs : List V}
    (hf : fnA cfg.P (cfg.rxf f) f = some fa) (h : runF cfg call n fa args mem = some (vs, mem')) (sr : SR cfg.P Z w j mem) (ha : VRs Z w j args us) :
    Calls cfg.P f us.toArray w fun e w1 => ∃ (xs : List Value) (Z1 : Zs) (j1 : J), e = .returned (if h : xs.toArray.size = 1 then xs.toArray[0] else .tuple xs.toArray) ∧ xs.length = vs.length ∧
      (∀ (i : Nat) (v : V) (u : Value), vs[i]? = some v → xs[i]? = some u → VR Z1 w1 j1 v u) ∧ SR cfg.P Z1 w1 j1 mem' ∧ Stp Z w j mem Z1 w1 j1 mem' ∧ JK mem.length j j1 := by
  unfold fnA at hf
  cases hfn : cfg.P.funcs[f]? with
  | none => simp [hfn] at hf
  | some fn =>
    simp only [hfn] at hf
    split at hf
    · cases hf
    · cases hb : fn.body with
      | none => simp [hb] at hf
      | some c =>
        simp only [hb, Option.map_eq_some_iff] at hf
        obtain ⟨cc, hcc, rfl⟩ := hf
        unfold runF at h
        split at h
        · rename_i hn
          obtain ⟨hn1, hn2⟩ := hn
          simp only at hn1 hn2
          simp only at h
          rw [← hn1] at h
          generalize hce : setF (cfg.rxf f) fn.ntmps (fn.results.toList.map fun r => match r with | .tmp t => t | .cell t _ => t) [] cc [] = ce at h
          have hcc' : prepF (cfg.rxf f) c = some (bare ce) := by rw [← hce, setF_bare, prepF_bare hcc]; exact hcc
          cases hx : exec cfg call n mem.length ce ⟨args ++ List.replicate (fn.ntmps - args.length) (.tup []), mem⟩ with
          | none => simp [hx] at h
          | some r =>
            obtain ⟨x, s'⟩ := r
            simp only [hx, Option.bind_some] at h
            have st := start_sound (nt := fn.ntmps) ha
            have hex := body_sound hm hp hi hsq c ce _ x s' hcc' hx _ w Z j st sr
            refine callsIn_wide.1 (callsIn_of_wp_marks (F := Fence.wide) (n := 0) hfn hb trivial (hex _ (fun a' w' haf hk => ?_) 0))
            obtain ⟨Z1, j1, q1, q2, q3, q4⟩ := haf
            have fin : (mapO (resV cfg.P s') (fn.results.toList.map toRV)).map (fun vs => (vs, s'.mem)) = some (vs, mem') → LeavesInM (FR none) 0 cfg.P fn a'.tmps (fun e w1 => ∃ (xs : List Value) (Z1 : Zs) (j1 : J), e = .returned (if h : xs.toArray.size = 1 then xs.toArray[0] else .tuple xs.toArray) ∧ xs.length = vs.length ∧
      (∀ (i : Nat) (v : V) (u : Value), vs[i]? = some v → xs[i]? = some u → VR Z1 w1 j1 v u) ∧ SR cfg.P Z1 w1 j1 mem' ∧ Stp Z w j mem Z1 w1 j1 mem' ∧ JK mem.length j j1) a'.defers .returning w' := by
              intro h
              simp only [Option.map_eq_some_iff] at h
              obtain ⟨vs', hv, h⟩ := h
              cases h
              obtain ⟨Ds, hDs, hnd, hDk⟩ := hk.marks
              rw [hDs, List.append_nil]
              refine leaves_marks Ds w' hnd hDk q1 q2 q3 fun w'' t1 t2 t3 => ?_
              obtain ⟨xs, e1, e2, e3⟩ := results_sound (fn := fn) t1 t2 hv
              exact ⟨_, e3, xs, Z1, j1, rfl, e1, e2, t2, t3, q4⟩
            cases x with
            | norm => exact fin h
            | ret => exact fin h
            | exit i => cases h
        · cases h
theorem one_or_tup {Z1 : Zs} {w1 : World} {j1 : J} {xs : List Value} {vs : List V} (hl : xs.length = vs.length) (hv : ∀ (i : Nat) (v : V) (u : Value), vs[i]? = some v → xs[i]? = some u → VR Z1 w1 j1 v u) :
    VR Z1 w1 j1 (tupV vs) (if h : xs.toArray.size = 1 then xs.toArray[0] else .tuple xs.toArray) := by
  match vs, xs, hl with
  | [v], [u], _ => exact hv 0 v u rfl rfl
  | [], [], _ => exact .tup rfl fun i c u hc => by simp at hc
  | v :: v' :: vs, u :: u' :: xs, hl =>
    rw [dif_neg (by simp)]
    exact .tup (by simpa using hl.symm) hv
structure CfgOK (cfg : Cfg) : Prop where
  mixed : cfg.P.follows .mixedOrders = true
  pp : ∀ f g, cfg.pprim f = some g → PureOK cfg.P fun f' as => if f' = f then g as else none
  ip : ∀ f g, cfg.iprim f = some g → ImpOK cfg.P fun f' as mem => if f' = f then g as mem else none
  seq : SeqOK cfg.P cfg.seqp := by exact fun _ _ _ _ _ h => nomatch h
theorem imp_sound {cfg : Cfg} (hc : CfgOK cfg) {call : CallF} (hp : PureOK cfg.P call.pc) (hi : ImpOK cfg.P call.ic) (n : Nat) : ImpOK cfg.P (icN cfg call n) := by
  intro f as mem r mem' h hok Z w j us sr ha
  unfold icN at h
  cases hpr : cfg.iprim f with
  | some g =>
    simp only [hpr] at h
    exact hc.ip f g hpr f as mem r mem' (by simpa using h) hok Z w j us sr ha
  | none =>
    simp only [hpr, Option.bind_eq_some_iff, Option.map_eq_some_iff] at h
    obtain ⟨fa, hfa, ⟨vs, m⟩, hrun, h⟩ := h
    cases h
    refine (run_sound hc.mixed hp hi hc.seq hfa hrun sr ha).mono ?_
    rintro e w1 ⟨xs, Z1, j1, rfl, e1, e2, e3, e4, e5⟩
    refine ⟨_, rfl, Z1, j1, one_or_tup e1 e2, e3, e4, fun id x hx => ?_⟩
    by_cases hlt : id < mem.length
    · exact e5 id x hlt hx
    · rw [sr.out id (by omega)] at hx; cases hx
theorem owned_nil {g : Nat} : ¬ Owned Z j [] g := by rintro ⟨id, o, h, _⟩; simp at h
theorem giveS_snap {mem : List O} {v v' : V} (h : giveS mem v = some v') : snap3 mem v = some v' := by
  cases v <;> first | (simp [giveS] at h; done) | exact h
theorem plainL_get : ∀ {l : List V} {i : Nat} {x : V}, plainL l = true → l[i]? = some x → x.plain = true
  | [], i, x, _, h => by simp at h
  | y :: l, i, x, hp, h => by
    simp only [plainL, Bool.and_eq_true] at hp
    cases i with
    | zero => simp at h; subst h; exact hp.1
    | succ i => exact plainL_get hp.2 (by simpa using h)
theorem cells_plain {v y : V} {i : Nat} (h : v.plain = true) (hy : v.cells[i]? = some y) : y.plain = true := by
  have one : ∀ v : V, v.plain = true → v.cells = [v] → v.cells[i]? = some y → y.plain = true := by
    intro v h e hy
    rw [e] at hy
    cases i with
    | zero => simp at hy; subst hy; exact h
    | succ i => simp at hy
  cases v with
  | agg cs => exact plainL_get (l := cs) (by simpa [V.plain] using h) hy
  | _ => exact one _ h rfl hy
theorem VR.swap {A : TypeId → Nat → Option Nat} {I : TypeId → Option Nat} {v : V} {u : Value} (h : VR Z w j v u) : v.plain = true → VR { Z with a := A, i := I } w j v u := by
  induction h with
  | junk => intro _; exact .junk
  | bool => intro _; exact .bool
  | int => intro _; exact .int
  | str => intro _; exact .str
  | agg hl _ ih => intro hp; exact .agg hl fun i c u h1 h2 => ih i c u h1 h2 (plainL_get (by simpa [V.plain] using hp) h1)
  | tup hl _ ih => intro hp; exact .tup hl fun i c u h1 h2 => ih i c u h1 h2 (plainL_get (by simpa [V.plain] using hp) h1)
  | nilS => intro _; exact .nilS
  | sl0 => intro _; exact .sl0
  | sl f hlc hsz hl hc _ ih =>
    intro hp
    exact .sl f hlc hsz hl hc (fun k x i y h1 h2 => ih k x i y h1 h2 (cells_plain (plainL_get (by simpa [V.plain] using hp) h1) h2))
  | own hj h0 => intro _; exact .own hj h0
  | win hj hn hlc hcc ha => intro _; exact .win hj hn hlc hcc ha
  | ptr hj hs => intro _; exact .ptr hj hs
  | ref f hc _ ih => intro hp; exact .ref f hc (fun i y h1 => ih i y h1 (cells_plain (by simpa [V.plain] using hp) h1))
  | fn hl _ ih => intro hp; exact .fn hl fun i c u h1 h2 => ih i c u h1 h2 (plainL_get (by simpa [V.plain] using hp) h1)
  | mp hj => intro _; exact .mp hj
  | nilP => intro _; exact .nilP
  | nilF => intro _; exact .nilF
  | nilM => intro _; exact .nilM
  | hp h => intro hp; simp [V.plain] at hp
  | hm h => intro hp; simp [V.plain] at hp
  | rest => intro _; exact .rest
  | tail hj hn _ ih => intro hp; exact .tail hj hn (ih rfl)
  | lit h hk hzz ih => intro hp; exact .lit (ih (by simpa [V.plain] using hp)) hk hzz
theorem idxO_of : ∀ {l : List Nat} {k t : Nat}, noTwice l = true → l[k]? = some t → idxO t l = some k
  | [], k, t, _, h => by simp at h
  | x :: l, k, t, hn, h => by
    simp only [noTwice, Bool.and_eq_true] at hn
    cases k with
    | zero => simp at h; subst h; simp [idxO]
    | succ k =>
      have h' : l[k]? = some t := by simpa using h
      have hne : ¬ x = t := by
        rintro rfl
        have := hn.1
        simp only [Bool.not_eq_true', List.contains_eq_mem, decide_eq_false_iff_not] at this
        exact this (List.mem_of_getElem? h')
      simp only [idxO, if_neg hne, idxO_of hn.2 h', Option.map_some]
def Zars (Z : Zs) (ts : List TypeId) : Zs := { Z with a := fun _ _ => none, i := fun t => idxO t ts }
theorem arM_ar (P : Program) (t : TypeId) : (arM P t).ar = some (t, 0) := by unfold arM; split <;> rfl
theorem arsM_get {cfg : Cfg} {f : FuncId} {k : Nat} {o : O} (h : (arsM cfg f)[k]? = some o) : ∃ t, (cfg.ars f)[k]? = some t ∧ o = arM cfg.P t := by
  unfold arsM at h
  simp only [List.getElem?_map, Option.map_eq_some_iff] at h
  obtain ⟨t, h1, h2⟩ := h
  exact ⟨t, h1, h2.symm⟩
theorem ars_owned {cfg : Cfg} {f : FuncId} {g : Nat} : ¬ Owned Z j (arsM cfg f) g := by
  rintro ⟨id, o, h, _, hb⟩
  obtain ⟨t, _, rfl⟩ := arsM_get h
  unfold Blk at hb
  rw [arM_ar] at hb
  obtain ⟨k, hk, _⟩ := hb
  exact absurd hk (Nat.not_lt_zero k)
theorem ars_sr {cfg : Cfg} {f : FuncId} (hn : noTwice (cfg.ars f) = true) (hzin : ∀ g o, Z g o → g < w.heap.size) : SR P (Zars Z (cfg.ars f)) w j0 (arsM cfg f) := by
  refine ⟨fun id o h => ?_, fun id id' o o' g h h' hl hl' hb _ => ?_, fun _ _ => rfl, hzin⟩
  · obtain ⟨t, ht, rfl⟩ := arsM_get h
    have hA : Arena (Zars Z (cfg.ars f)) id t 0 := ⟨idxO_of hn ht, fun k hk => by omega, fun k _ => rfl, fun k k' g h => by cases h⟩
    unfold arM
    split
    · exact ⟨hA, fun k x g h => by simp at h⟩
    · exact ⟨hA, fun k x g h => by simp at h⟩
  · exact (ars_owned ⟨id, o, h, hl, hb⟩).elim
theorem pure_sound {cfg : Cfg} (hc : CfgOK cfg) {call : CallF} (hp : PureOK cfg.P call.pc) (hi : ImpOK cfg.P call.ic) (n : Nat) : PureOK cfg.P (pcN cfg call n) := by
  intro f as r h hok Z w us hzin ha
  unfold pcN at h
  cases hpr : cfg.pprim f with
  | some g =>
    simp only [hpr] at h
    exact hc.pp f g hpr f as r (by simpa using h) hok Z w us hzin ha
  | none =>
    simp only [hpr] at h
    split at h
    rotate_left
    · cases h
    rename_i hars
    simp only [Option.bind_eq_some_iff] at h
    obtain ⟨fa, hfa, ⟨vs, m⟩, hrun, h⟩ := h
    by_cases hem : cfg.ars f = []
    rotate_left
    · -- arenas of its own
      have hars : noTwice (cfg.ars f) = true ∧ plainL as = true := by
        unfold arsOk at hars
        rw [Bool.or_eq_true] at hars
        rcases hars with h | h
        · exact (hem (by simpa using h)).elim
        · simpa using h
      have ha' : VRs (Zars Z (cfg.ars f)) w j0 as us := ⟨ha.1, fun i v u h1 h2 => (ha.2 i v u h1 h2).swap (plainL_get hars.2 h1)⟩
      refine (run_sound hc.mixed hp hi hc.seq hfa hrun (ars_sr hars.1 hzin) ha').mono ?_
      rintro e w1 ⟨xs, Z1, j1, rfl, e1, e2, e3, e4, _⟩
      have hv1 : ∃ v, vs = [v] ∧ v.flat1 = true ∧ r = v := by
        unfold giveA at h
        cases hcf : cfg.ars f with
        | nil => exact (hem hcf).elim
        | cons t ts =>
          rw [hcf] at h
          simp only at h
          split at h
          · rename_i v
            split at h
            · rename_i hfl
              cases h
              exact ⟨_, rfl, hfl, rfl⟩
            · cases h
          · cases h
      obtain ⟨v, rfl, hfl, rfl⟩ := hv1
      match xs, e1 with
      | [u], _ =>
        have hv := e2 0 r u rfl rfl
        have hv2 : VR { Z1 with a := Z.a, i := Z.i } w1 j0 r u := flat_any (hv.flat hfl j0) hfl
        refine ⟨u, { Z1 with a := Z.a, i := Z.i }, rfl, ?_, ⟨e4.os, e4.tape, e4.output, e4.size, fun g hg => e4.keep g hg ars_owned, e3.zin, rfl, rfl⟩⟩
        cases r <;> first | exact hv2 | (simp [V.flat1] at hfl)
    have hem0 : arsM cfg f = [] := by unfold arsM; rw [hem]; rfl
    rw [hem0] at hrun
    replace h : give cfg.P m fa.rtypes vs = some r := by unfold giveA at h; rw [hem] at h; exact h
    have sr : SR cfg.P Z w j0 [] := ⟨fun id o h => by simp at h, fun id id' o o' g h => by simp at h, fun _ _ => rfl, hzin⟩
    refine (run_sound hc.mixed hp hi hc.seq hfa hrun sr ha).mono ?_
    rintro e w1 ⟨xs, Z1, j1, rfl, e1, e2, e3, e4, _⟩
    have za : Z1.a = Z.a := funext fun t => (e4.ar t fun id o n ho => by simp at ho).2
    have st0 : StpP Z w Z1 w1 := ⟨e4.os, e4.tape, e4.output, e4.size, fun g hg => e4.keep g hg owned_nil, e3.zin, za, e4.z.i⟩
    have young : ∀ g, Owned Z1 j1 m g → w.heap.size ≤ g := fun g hg => by
      rcases Nat.lt_or_ge g w.heap.size with hlt | hge
      · exact (owned_nil (e4.owned g hlt hg)).elim
      · exact hge
    have frz : ∀ ids : List Nat, StpP Z w (Zor Z1 (Fz cfg.P j1 m ids)) w1 := fun ids => ⟨st0.os, st0.tape, st0.output, st0.size, fun g hg => ⟨(st0.keep g hg).1, fun o => ⟨fun h => ((st0.keep g hg).2 o).1 (h.resolve_right fun ⟨id, _, hb, ho⟩ => by
        have := young g (objLen_block e3 hb ho); omega), fun h => .inl (((st0.keep g hg).2 o).2 h)⟩⟩, fun g o h => by
      rcases h with h | ⟨id, _, hb, ho⟩
      · exact e3.zin g o h
      · exact Owned.lt e3 (objLen_block e3 hb ho), za, e4.z.i⟩
    have snapOne : ∀ (v v' : V) (u : Value), giveS m v = some v' → VR Z1 w1 j1 v u → ∃ ids, VR (Zor Z1 (Fz cfg.P j1 m ids)) w1 j0 v' u := fun v v' u hg hv => ⟨ids3 m v, snap3_sound e3 (giveS_snap hg) (fun _ h => h) hv⟩
    have notTup2 : ∀ (v v' : V), snap2 m v = some v' → (∀ ws, v' ≠ .tup ws) ∧ (∀ t els, v' ≠ .fr t els) := by
      intro v v' hs
      have s1 : ∀ v v', snap1 m v = some v' → (∀ ws, v' ≠ .tup ws) ∧ (∀ t els, v' ≠ .fr t els) := by
        intro v v' h1
        have := (snap1_one h1).1
        exact ⟨fun ws e => (by rw [e] at this; cases this), fun t els e => (by rw [e] at this; cases this)⟩
      cases v with
      | agg cs =>
        simp only [snap2, Option.map_eq_some_iff] at hs
        obtain ⟨ds, _, rfl⟩ := hs
        exact ⟨fun _ h => (by cases h), fun _ _ h => (by cases h)⟩
      | ptr id k off =>
        simp only [snap2, Option.bind_eq_some_iff] at hs
        obtain ⟨⟨x, o⟩, _, hs⟩ := hs
        cases x <;> simp only [Option.map_eq_some_iff] at hs <;> (obtain ⟨_, _, rfl⟩ := hs; exact ⟨fun _ h => (by cases h), fun _ _ h => (by cases h)⟩)
      | _ => exact s1 _ _ (by simpa [snap2] using hs)
    have notTup : ∀ (v v' : V), snap3 m v = some v' → (∀ ws, v' ≠ .tup ws) ∧ (∀ t els, v' ≠ .fr t els) := by
      intro v v' hs
      by_cases hf : ∃ f caps, v = .fn f caps
      · obtain ⟨f, caps, rfl⟩ := hf
        simp only [snap3, Option.map_eq_some_iff] at hs
        obtain ⟨ds, _, rfl⟩ := hs
        exact ⟨fun _ h => (by cases h), fun _ _ h => (by cases h)⟩
      · have e0 : snap3 m v = snap2 m v := by cases v <;> first | rfl | exact (hf ⟨_, _, rfl⟩).elim
        exact notTup2 v v' (e0 ▸ hs)
    have r1of : ∀ (Z2 : Zs) (v' : V) (u : Value), (∀ t els, v' ≠ .fr t els) → VR Z2 w1 j0 v' u → R1 cfg.P Z2 w w1 v' u := by
      intro Z2 v' u hn hv
      cases v' <;> first | exact hv | exact (hn _ _ rfl).elim
    match vs, xs, e1 with
    | [v], [u], _ =>
      have hv := e2 0 v u rfl rfl
      have goal : ∀ (r' : V), r = r' → ∀ Z2, RR cfg.P Z2 w w1 r' u → StpP Z w Z2 w1 → ∃ u' Z1, Ending.returned (if h : ([u] : List Value).toArray.size = 1 then ([u] : List Value).toArray[0] else .tuple ([u] : List Value).toArray) = .returned u' ∧ RR cfg.P Z1 w w1 r u' ∧ StpP Z w Z1 w1 := by
        intro r' e Z2 h1 h2
        subst e
        exact ⟨u, Z2, rfl, h1, h2⟩
      have snapG : giveS m v = some r → ∃ u' Z1, Ending.returned (if h : ([u] : List Value).toArray.size = 1 then ([u] : List Value).toArray[0] else .tuple ([u] : List Value).toArray) = .returned u' ∧ RR cfg.P Z1 w w1 r u' ∧ StpP Z w Z1 w1 := by
        intro hg
        obtain ⟨ids, hs⟩ := snapOne v r u hg hv
        obtain ⟨n1, n2⟩ := notTup v r (giveS_snap hg)
        exact goal r rfl _ (RR.mk (r1of _ r u n2 hs) n1) (frz ids)
      have h' : ∃ t, give1 cfg.P m t v = some r := by
        unfold give at h
        cases hrt : fa.rtypes with
        | nil => simp [hrt] at h
        | cons t ts =>
          cases ts with
          | nil => simp only [hrt] at h; exact ⟨t, h⟩
          | cons t' ts => simp [hrt] at h
      obtain ⟨t, h⟩ := h'
      unfold give1 at h
      split at h
      · rename_i id _ _
        cases hmm : m[id]? with
        | none => simp [hmm] at h
        | some o =>
          cases o <;> simp only [hmm] at h <;> first | (cases h; done) | skip
          rename_i et els fz
          have hO := e3.obj id _ hmm
          obtain ⟨hn, hh, hrow⟩ := hO
          cases hv with
          | own hj h00 =>
            rw [hj] at hh; cases hh
            split at h
            rotate_left
            · have hs : snap1 m (.own id) = some (.sl els) := by simp [snap1, elems, hmm]
              exact snapG (by simp [giveS, snap3, snap2, hs]; exact Option.some.inj h)
            split at h
            · rename_i hfz
              subst hfz
              split at h
              rotate_left
              · cases h
              rename_i hfl
              have h1 := hrow.1
              simp only at h1
              subst h1
              refine goal _ (Option.some.inj h).symm Z1 ?_ st0
              refine ⟨_, _, _, rfl, hrow, fun x hx y hy => ?_, fun g hg => ?_, h00⟩
              · exact List.all_eq_true.1 (List.all_eq_true.1 hfl x hx) y hy
              · have ho : Owned Z1 j1 m g := ⟨id, _, hmm, rfl, (Blk.plain rfl).2 (by simpa [blkOf, hj] using hg)⟩
                exact ⟨young g ho, Owned.lt e3 ho⟩
            · have hs : snap1 m (.own id) = some (.sl els) := by simp [snap1, elems, hmm]
              exact snapG (by simp [giveS, snap3, snap2, hs]; exact Option.some.inj h)
      · cases hel : elemOf cfg.P t with
        | none => simp [hel] at h
        | some et =>
          simp only [hel, Option.bind_some] at h
          split at h
          · rename_i hpos
            split at h
            rotate_left
            · exact snapG (by simp [giveS, snap3, snap2, snap1]; exact Option.some.inj h)
            cases hv
            refine goal _ (Option.some.inj h).symm Z1 ?_ st0
            exact ⟨none, 0, 0, rfl, ⟨rfl, hpos, Nat.le_refl _, by simp, .inl ⟨rfl, rfl⟩⟩, by simp, fun g hg => by simp [Han.blk] at hg, fun a ha => by cases ha⟩
          · cases h
      · exact snapG h
    | [], [], _ =>
      have : r = .tup [] := by
        unfold give at h
        cases hrt : fa.rtypes <;> simp [hrt, mapO] at h <;> first | exact h.symm | (rename_i ts; cases ts <;> simp [hrt, mapO] at h <;> exact h.symm)
      subst this
      exact ⟨_, Z1, rfl, ⟨[], rfl, rfl, fun i v x h => by simp at h⟩, st0⟩
    | v :: v' :: vs, u :: u' :: xs, hl =>
      have h' : (mapO (giveS m) (v :: v' :: vs)).map V.tup = some r := by
        unfold give at h
        cases hrt : fa.rtypes with
        | nil => simpa [hrt] using h
        | cons t ts => cases ts <;> simpa [hrt] using h
      simp only [Option.map_eq_some_iff] at h'
      obtain ⟨gs, hgs, rfl⟩ := h'
      obtain ⟨g1, g2⟩ := mapO_get hgs
      refine ⟨.tuple (u :: u' :: xs).toArray, Zor Z1 (Fz cfg.P j1 m ((v :: v' :: vs).flatMap (ids3 m))), by rw [dif_neg (by simp)], ⟨u :: u' :: xs, rfl, by rw [g1]; exact hl.symm, fun i y x hy hx => ?_⟩, frz _⟩
      obtain ⟨y0, hy0, hgy⟩ := g2 i y hy
      have hsn := giveS_snap hgy
      refine r1of _ y x (notTup y0 y hsn).2 (snap3_sound e3 hsn (fun k hk => ?_) (e2 i y0 x hy0 hx))
      simp only [List.mem_flatMap]
      exact ⟨y0, List.mem_of_getElem? hy0, hk⟩
theorem callN_sound {cfg : Cfg} (hc : CfgOK cfg) : ∀ n, PureOK cfg.P (callN cfg n).pc ∧ ImpOK cfg.P (callN cfg n).ic := by
  intro n
  induction n with
  | zero => exact ⟨fun f as r h => by simp [callN] at h, fun f as mem r mem' h => by simp [callN] at h⟩
  | succ n ih => exact ⟨pure_sound hc ih.1 ih.2 n, imp_sound hc ih.1 ih.2 n⟩
end
end Go.Lite