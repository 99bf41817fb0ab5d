/-
  A range over a function: the model's loop does what the interpreter's does.
-/
import Derived.Test.YtknapnnpmfhogaaLiteR
namespace Go.Lite
open Go Go.MapKept
set_option linter.unusedVariables false
section
variable {P : Program} {Z Z' : Zs} {w w' : World} {j j' : J} {mem mem' : List O}
def Keep (Z : Zs) (w w' : World) : Prop := w.heap.size ≤ w'.heap.size ∧ ∀ g o, Z g o → w'.cell? ⟨g, o, none⟩ = w.cell? ⟨g, o, none⟩
theorem Keep.of (hs : w.heap.size ≤ w'.heap.size) (h : ZExt Z w Z' w') : Keep Z w w' := ⟨hs, fun g o hz => (h g o hz).2.1⟩
def SeqOK (P : Program) (seqp : FuncId → Option (List TypeId × (List V → Option (List (List V))))) : Prop :=
  ∀ f ts h as rounds, seqp f = some (ts, h) → h as = some rounds → ∀ (Z : Zs) (w : World) (us : List Value), (∀ g o, Z g o → g < w.heap.size) → VRs Z w j0 as us →
    (∀ args w, (callFunc f args).run P w = .ok (.enter f args) w) ∧
    ∃ encs : List (List Value), encs.length = rounds.length ∧ (∀ (k : Nat) (x : List V) (u : List Value), rounds[k]? = some x → encs[k]? = some u → VRs Z w j0 x u) ∧
      ∀ (l : Nat) (I : Nat → World → Prop) (Ix : World → Prop) (W : World), (∀ k W1 W2, I k W1 → Same W1 W2 → I k W2) → (∀ W1 W2, Ix W1 → Same W1 W2 → Ix W2) → (∀ k W1, I k W1 → Keep Z w W1) →
        (∀ (k : Nat) (u : List Value) (W1 : World), encs[k]? = some u → I k W1 → YieldAt Fence.wide 0 P l u.toArray W1 fun e W2 => (e = .returned (.bool true) ∧ I (k + 1) W2) ∨ (e = .returned (.bool false) ∧ Ix W2)) →
        I 0 W → Calls P f (#[.func (.yield l) #[] #[]] ++ us.toArray) W fun e W' => (∃ v, e = .returned v) ∧ (I encs.length W' ∨ Ix W')
theorem VR.tmps {env : List V} {a a' : Act} (s : St Z w j env a) (h : a'.tmps = a.tmps) : St Z w j env a' := ⟨by rw [h]; exact s.len, by rw [h]; exact s.val⟩
theorem St.setJunk {env : List V} {a : Act} (s : St Z w j env a) (g : Nat) (v : V) (hv : ∀ u, VR Z w j v u) : St Z w j (env.set g v) a := by
  refine ⟨by simp [s.len], fun i x hx => ?_⟩
  by_cases e : g = i
  · subst e
    have hlt : g < env.length := by have := (List.getElem?_eq_some_iff.1 hx).1; simpa using this
    rw [List.getElem?_set_self hlt] at hx
    cases hx
    exact ⟨a.tmps[g]'(by rw [s.len]; exact hlt), Array.getElem?_eq_getElem _, hv _⟩
  · rw [List.getElem?_set_ne e] at hx
    exact s.val i x hx
theorem setPs_sound {ds : List Deferred} : ∀ (ps : List Nat) (vs : List V) (us : List Value) (env : List V) (T : Array Value), vs.length = ps.length → VRs Z w j vs us → St Z w j env { tmps := T, defers := ds } →
    St Z w j (setPs env ps vs) { tmps := (ps.zip us).foldl (fun t (p, v) => t.setIfInBounds p v) T, defers := ds } ∧ ((ps.zip us).foldl (fun t (p, v) => t.setIfInBounds p v) T).size = T.size ∧
      ∀ i, i ∉ ps → ((ps.zip us).foldl (fun t (p, v) => t.setIfInBounds p v) T)[i]? = T[i]? := by
  intro ps
  induction ps with
  | nil => intro vs us env T hl hv st; cases vs <;> exact ⟨st, rfl, fun _ _ => rfl⟩
  | cons p ps ih =>
    intro vs us env T hl hv st
    cases vs with
    | nil => simp at hl
    | cons v vs =>
      cases us with
      | nil => have := hv.1; simp at this
      | cons u us =>
        have hv' : VRs Z w j vs us := ⟨by have := hv.1; simpa using this, fun i x y h1 h2 => hv.2 (i + 1) x y (by simpa using h1) (by simpa using h2)⟩
        have s1 : St Z w j (env.set p v) { tmps := T.setIfInBounds p u, defers := ds } := st.put (some p) (hv.2 0 v u rfl rfl)
        obtain ⟨a, b, c⟩ := ih vs us _ _ (by simpa using hl) hv' s1
        refine ⟨a, b.trans (by simp), fun i hi => ?_⟩
        simp only [List.mem_cons, not_or] at hi
        exact (c i hi.2).trans (Array.getElem?_setIfInBounds_ne (Ne.symm hi.1))
theorem zip_foldl (ps : Array Tmp) (us : List Value) (T : Array Value) : (ps.zip us.toArray).foldl (fun t (p, v) => t.setIfInBounds p v) T = (ps.toList.zip us).foldl (fun t (p, v) => t.setIfInBounds p v) T := by
  rw [← Array.foldl_toList]
  congr 1
  simp
def outX (B : Nat) : Ex → Exit
  | .exit i => if i = B then .normal else .exit i
  | y => y.toExit
theorem range_sound {cfg : Cfg} {call : CallF} (hq : SeqOK cfg.P cfg.seqp) {n n0 : Nat} {g : Nat} {ps : Array Tmp} {asg body : Code} {F : List Nat} {ca cb : C} {ws : List Nat} {B : Nat}
    (hws : ∀ i, i ∈ ps.toList ∨ i ∈ wrs ca ∨ i ∈ wrs cb → i ∈ ws) (hst : straight ca = true) (hex : B ∉ exits cb)
    (iha : ∀ (r : Nat) (s : S) (x : Ex) (s' : S), exec cfg call n n0 ca s = some (x, s') → ∀ (a : Act) (w : World) (Z : Zs) (j : J), St Z w j s.env a → SR cfg.P Z w j s.mem →
      ∀ (Q : Exit → Act → World → Prop), (∀ a' w', AfterC cfg.P n0 Z w j s.mem s' a' w' → KeptC (wrs ca) w a a' w' → Q x.toExit a' w') → asg.wpIn (FR (some r)) 0 cfg.P Q a w)
    (ihb : ∀ (r : Nat) (s : S) (x : Ex) (s' : S), exec cfg call n n0 cb s = some (x, s') → ∀ (a : Act) (w : World) (Z : Zs) (j : J), St Z w j s.env a → SR cfg.P Z w j s.mem →
      ∀ (Q : Exit → Act → World → Prop), (∀ a' w', AfterC cfg.P n0 Z w j s.mem s' a' w' → KeptC (wrs cb) w a a' w' → Q x.toExit a' w') → body.wpIn (FR (some r)) 0 cfg.P Q a w)
    {s s1 : S} (h1 : startA cfg g s = some s1) {y0 : Ex} {s20 : S} {N : Nat} (h2 : iter (fun s => exec cfg call n n0 (.uncons g ps.toList ws (.seq ca cb) (.exit B)) (clean n0 F s)) N s1 = some (y0, s20))
    {a : Act} {w : World} {Z : Zs} {j : J} (st : St Z w j s.env a) (sr : SR cfg.P Z w j s.mem) {Q : Exit → Act → World → Prop}
    (hQ : ∀ a' w', AfterC cfg.P n0 Z w j s.mem (clean n0 F s20) a' w' → KeptC [] w a a' w' → Q (outX B y0) a' w') (m : Nat) :
    (Code.rangeFunc (.tmp g) ps asg body).wpIn (FR none) m cfg.P Q a w := by
  unfold startA at h1
  split at h1
  rotate_left
  · cases h1
  rename_i f caps henv
  simp only [Option.bind_eq_some_iff, Option.map_eq_some_iff] at h1
  obtain ⟨⟨ts, hh⟩, hseq, as, hsn, l, hl, hs1⟩ := h1
  simp only at hl hs1
  obtain ⟨u0, hu0, hv0⟩ := st.val g _ henv
  have hsn3 : snap3 s.mem (.fn f caps) = some (.fn f as) := by simp only [snap3, hsn, Option.map_some]
  have hv1 := snap3_sound (ids := caps.flatMap (ids2 s.mem)) sr hsn3 (fun i hi => hi) hv0
  obtain ⟨sr1, ow1⟩ := freezeAll_sound (w := w) (j := j) (caps.flatMap (ids2 s.mem)) Z s.mem sr
  obtain ⟨Z1, hZ1⟩ : ∃ Z1, Z1 = Zor Z (Fz cfg.P j s.mem (caps.flatMap (ids2 s.mem))) := ⟨_, rfl⟩
  rw [← hZ1] at hv1 sr1
  have stp1 : Stp Z w j s.mem Z1 w j (freezeAll (caps.flatMap (ids2 s.mem)) s.mem) := by
    subst hZ1
    exact ⟨rfl, rfl, rfl, Nat.le_refl _, fun g' hg hno => ⟨rfl, fun o => ⟨fun h => h.resolve_right fun ⟨id, _, hb, ho⟩ => hno (objLen_block sr hb ho), .inl⟩⟩, fun g' _ ho => (ow1 g').1 ho, ZExt.or _ _ _, fun _ h => ⟨h.freezeAll _, rfl⟩⟩
  have hz1 : ZExt Z w Z1 w := stp1.z
  obtain ⟨us, rfl, hus⟩ : ∃ us : List Value, u0 = .func (.func f) #[] us.toArray ∧ VRs Z1 w j0 as us := by
    cases hv1 with
    | fn hl' hh' => exact ⟨_, rfl, hl', hh'⟩
  have heval : a.eval (.tmp g) = .func (.func f) #[] us.toArray := by simp [Act.eval, hu0, Array.getD_eq_getD_getElem?]
  obtain ⟨hin, encs, e1, e2, e3⟩ := hq f ts hh as l hseq hl Z1 w us sr1.zin hus
  refine wpIn_rangeFunc ?_
  intro fn _
  obtain ⟨rec, hrec⟩ : ∃ rec : LoopState → Option Code → Loop, rec = fun st pe => { state := st, pending := pe, fn, tmps := a.tmps, params := ps, assign := asg, body, defers := w.heap.size } := ⟨_, rfl⟩
  have hpend : ∀ st pe, (rec st pe).pending = pe := fun st pe => by rw [hrec]
  have hstate : ∀ st pe, (rec st pe).state = st := fun st pe => by rw [hrec]
  obtain ⟨W1, hW1⟩ : ∃ W1, (w.alloc (.deferred (some []))).alloc (.loop (rec .ready none)) = W1 := ⟨_, rfl⟩
  have hL1 : W1.heap[w.heap.size + 1]? = some (.loop (rec .ready none)) := by
    rw [← hW1]; have := World.alloc_heap_new (w.alloc (.deferred (some []))) (.loop (rec .ready none)); rwa [World.size_alloc] at this
  have hD1 : W1.heap[w.heap.size]? = some (.deferred (some [])) := by
    rw [← hW1]; exact (heap_push_old (w := w.alloc (.deferred (some []))) (w1 := (w.alloc (.deferred (some []))).alloc (.loop (rec .ready none))) rfl (by rw [World.size_alloc]; omega)).trans (World.alloc_heap_new w _)
  have srW : SR cfg.P Z1 W1 j s1.mem := by rw [← hW1, ← hs1]; exact (sr1.alloc _).alloc _
  have stpW : Stp Z w j s.mem Z1 W1 j s1.mem := by
    rw [← hW1, ← hs1]; exact (stp1.trans (Stp.alloc sr1 _)).trans (Stp.alloc (sr1.alloc _) _)
  have zW : ZExt Z1 w Z1 W1 := by
    rw [← hW1]; exact (alloc_z sr1.zin).trans (alloc_z (sr1.alloc _).zin)
  have st0 : St Z1 W1 j s1.env a := by
    rw [← hs1]
    exact ((st.mono hz1 (JExt.refl _)).mono zW (JExt.refl _)).setJunk g _ (fun _ => .rest)
  obtain ⟨step, hstep⟩ : ∃ step, step = fun s => exec cfg call n n0 (.uncons g ps.toList ws (.seq ca cb) (.exit B)) (clean n0 F s) := ⟨_, rfl⟩
  rw [← hstep] at h2
  let I : Nat → World → Prop := fun k W => ∃ (Z' : Zs) (j' : J) (sk : S) (mm : Nat), SR cfg.P Z' W j' sk.mem ∧ St Z' W j' sk.env a ∧ Stp Z w j s.mem Z' W j' sk.mem ∧ JK n0 j j' ∧ ZExt Z1 w Z' W ∧
    sk.env[g]? = some (.rest ts ((l.drop k).map .tup)) ∧ iter step mm sk = some (y0, s20) ∧ W.heap[w.heap.size + 1]? = some (.loop (rec .ready none)) ∧ W.heap[w.heap.size]? = some (.deferred (some []))
  let Ix : World → Prop := fun W => ∃ (Z' : Zs) (j' : J) (c : Code), SR cfg.P Z' W j' s20.mem ∧ St Z' W j' s20.env a ∧ Stp Z w j s.mem Z' W j' s20.mem ∧ JK n0 j j' ∧
    ((y0 = .ret ∧ c = .ret) ∨ ∃ i, y0 = .exit i ∧ i ≠ B ∧ c = .exit i) ∧ W.heap[w.heap.size + 1]? = some (.loop (rec .done (some c))) ∧ W.heap[w.heap.size]? = some (.deferred (some []))
  have main := e3 (w.heap.size + 1) I Ix W1
    (fun k A B' ⟨Z', j', sk, mm, q1, q2, q3, q4, q5, q6, q7, q8, q9⟩ hs => ⟨Z', j', sk, mm, q1.same hs, q2.mono (same_z hs) (JExt.refl _), q3.same hs, q4, q5.trans (same_z hs), q6, q7, by rw [hs.1]; exact q8, by rw [hs.1]; exact q9⟩)
    (fun A B' ⟨Z', j', c, q1, q2, q3, q4, q5, q6, q7⟩ hs => ⟨Z', j', c, q1.same hs, q2.mono (same_z hs) (JExt.refl _), q3.same hs, q4, q5, by rw [hs.1]; exact q6, by rw [hs.1]; exact q7⟩)
    (fun k W ⟨Z', j', sk, mm, q1, q2, q3, q4, q5, _⟩ => Keep.of q3.size q5)
    ?_
    ⟨Z1, j, s1, N, srW, st0, stpW, JK.refl _ _, zW, by rw [← hs1]; simp only [List.drop_zero]; exact List.getElem?_set_self (List.getElem?_eq_some_iff.1 henv).1, h2, hL1, hD1⟩
  · -- entering, and behind the function
    refine ⟨w.heap.size + 1, [mark w.heap.size], W1, { target := .fn (.func f) us.toArray, args := #[.func (.yield (w.heap.size + 1)) #[] #[]] }, W1, f, #[.func (.yield (w.heap.size + 1)) #[] #[]] ++ us.toArray, W1, ?_, ?_, ?_, ?_, fun h => (by cases h), ?_⟩
    · rw [← hW1, hrec]; exact run_enterLoop_outer _ _ _ _ _
    · simp only [resolve, heval]
      simp [go_sem]
    · intro _ _; trivial
    · simp [invoke, go_sem, hin]
    · refine CallsIn.mono (calls_in (r := none) (n := m - 1) main) ?_
      rintro e W2 ⟨⟨v, rfl⟩, (hI | hI)⟩
      · obtain ⟨Z', j', sk, mm, q1, q2, q3, q4, q5, q6, q7, q8, q9⟩ := hI
        have hend := (run_endLoop (P := cfg.P) q8 (by rw [hstate]; simp)).trans (congrArg (fun p => Result.ok p (W2.putObj (w.heap.size + 1) (.loop { rec .ready none with state := .exhausted }))) (hpend .ready none))
        refine ⟨none, _, hend, ?_⟩
        cases mm with
        | zero => simp [iter] at q7
        | succ mm =>
        simp only [iter] at q7
        obtain ⟨jc, c1, c2, c3, c4⟩ := clean_sound n0 F q2 q1
        have hrest : sk.env[g]? = some (.rest ts []) := by rw [q6, e1, List.drop_length]; rfl
        have hgo : step sk = some (.exit B, clean n0 F sk) := by
          have : step sk ≠ none := by intro e; rw [e] at q7; cases q7
          rw [hstep] at this ⊢
          rcases clean_rest (n0 := n0) (f := F) hrest with e | e
          · simp only [exec, e]
          · simp only [exec, e] at this; exact (this rfl).elim
        rw [hgo] at q7
        simp only [Option.bind_some, Option.some.injEq, Prod.mk.injEq] at q7
        obtain ⟨rfl, rfl⟩ := q7
        have hb : isBook (.loop (rec .ready none)) = true := rfl
        have c1' := c1
        obtain ⟨jd, d1, d2, d3, d4⟩ := clean_sound n0 F c1 c2
        have hz := book_z (Z := Z') (o' := .loop { rec .ready none with state := .exhausted }) q8 rfl rfl
        have := hQ { a with defers := [mark w.heap.size] ++ a.defers } (W2.putObj (w.heap.size + 1) (.loop { rec .ready none with state := .exhausted }))
          ⟨Z', jd, VR.tmps (d1.mono hz (JExt.refl _)) rfl, d2.book q8 rfl rfl, ((q3.trans c3).trans d3).book (by omega) q8 rfl rfl, (q4.trans c4).trans d4⟩
          ⟨⟨[w.heap.size], rfl, by simp, fun D hD => by
            simp at hD; subst hD
            exact ⟨Nat.le_refl _, (World.putObj_heap_other (by omega)).trans q9⟩⟩, rfl, fun _ _ => rfl⟩
        simp only [outX, if_true] at this
        exact this
      · obtain ⟨Z', j', c, q1, q2, q3, q4, q5, q6, q7⟩ := hI
        have hend := (run_endLoop (P := cfg.P) q6 (by rw [hstate]; simp)).trans (congrArg (fun p => Result.ok p (W2.putObj (w.heap.size + 1) (.loop { rec .done (some c) with state := .exhausted }))) (hpend .done (some c)))
        obtain ⟨jd, d1, d2, d3, d4⟩ := clean_sound n0 F q2 q1
        have hz := book_z (Z := Z') (o' := .loop { rec .done (some c) with state := .exhausted }) q6 rfl rfl
        have := hQ { a with defers := [mark w.heap.size] ++ a.defers } (W2.putObj (w.heap.size + 1) (.loop { rec .done (some c) with state := .exhausted }))
          ⟨Z', jd, VR.tmps (d1.mono hz (JExt.refl _)) rfl, d2.book q6 rfl rfl, (q3.trans d3).book (by omega) q6 rfl rfl, q4.trans d4⟩
          ⟨⟨[w.heap.size], rfl, by simp, fun D hD => by
            simp at hD; subst hD
            exact ⟨Nat.le_refl _, (World.putObj_heap_other (by omega)).trans q7⟩⟩, rfl, fun _ _ => rfl⟩
        refine ⟨some c, _, hend, ?_⟩
        rcases q5 with ⟨rfl, rfl⟩ | ⟨i, rfl, hi, rfl⟩
        · exact wpIn_ret this
        · simp only [outX, if_neg hi] at this
          exact wpIn_exit this
  · -- one round
    rintro k u W hku ⟨Z', j', sk, mm, q1, q2, q3, q4, q5, q6, q7, q8, q9⟩
    have hkl : k < l.length := by rw [← e1]; exact (List.getElem?_eq_some_iff.1 hku).1
    have hlk : l[k]? = some l[k] := List.getElem?_eq_getElem hkl
    generalize l[k] = x at hlk
    have hvx := e2 k x u hlk hku
    have hdrop : l.drop k = x :: l.drop (k + 1) := by
      rw [List.drop_eq_getElem_cons hkl]
      congr 1
      rw [List.getElem?_eq_getElem hkl] at hlk
      exact Option.some.inj hlk
    cases mm with
    | zero => simp [iter] at q7
    | succ mm =>
    simp only [iter] at q7
    obtain ⟨jc, c1, c2, c3, c4⟩ := clean_sound n0 F q2 q1
    rw [hdrop] at q6
    cases hgo : step sk with
    | none => rw [hgo] at q7; cases q7
    | some r1 =>
    obtain ⟨y1, s'⟩ := r1
    rw [hgo] at q7
    simp only [Option.bind_some] at q7
    rw [hstep] at hgo
    have hck : (clean n0 F sk).env[g]? = some (.rest ts (.tup x :: (l.drop (k + 1)).map .tup)) := by
      rcases clean_rest (n0 := n0) (f := F) q6 with e | e
      · exact e
      · simp only [exec, e] at hgo; cases hgo
    simp only [exec, hck] at hgo
    split at hgo
    rotate_left
    · cases hgo
    rename_i hxl
    simp only [Option.map_eq_some_iff] at hgo
    obtain ⟨⟨y2, t⟩, hgo, he⟩ := hgo
    cases he
    cases hea : exec cfg call n n0 ca ⟨setPs ((clean n0 F sk).env.set g .junk) ps.toList x, (clean n0 F sk).mem⟩ with
    | none => rw [hea] at hgo; cases hgo
    | some ra =>
    obtain ⟨xa, ta⟩ := ra
    have := straight_norm ca hst _ _ _ hea
    subst this
    rw [hea] at hgo
    simp only [Option.bind_some] at hgo
    have heb : exec cfg call n n0 cb ta = some (y2, t) := hgo
    have hus' : u.length = ps.size := by rw [← hvx.1, hxl]; simp
    have hy := run_yield (P := cfg.P) (args := u.toArray) q8 (by rw [hrec]; simpa using hus')
    have hvx' : VRs Z' W jc x u := ⟨hvx.1, fun i v z h1 h2 => (hvx.2 i v z h1 h2).mono q5 (JExt.zero _)⟩
    obtain ⟨p1, p2, p3⟩ := setPs_sound (ds := []) ps.toList x u ((clean n0 F sk).env.set g .junk) a.tmps hxl hvx' (VR.tmps (c1.setJunk g .junk (fun _ => .junk)) rfl)
    rw [← zip_foldl] at p1 p2 p3
    obtain ⟨T0, hT0⟩ : ∃ T0, (ps.zip u.toArray).foldl (fun t (p, v) => t.setIfInBounds p v) a.tmps = T0 := ⟨_, rfl⟩
    rw [hT0] at p1 p2 p3
    refine ⟨fn, T0, asg, body, by rw [hrec] at hy; rw [← hT0]; exact hy, roundIn_of_wpIn trivial (iha (w.heap.size + 1) _ _ _ hea { tmps := T0, defers := [] } W Z' jc p1 c2 _ ?_)⟩
    intro a1 Wa ⟨Z2, j2, b1, b2, b3, b4⟩ hka
    have keepA : ∀ (D : Nat) (o : Obj), W.heap[D]? = some o → isBook o = true → Wa.heap[D]? = some o := fun D o hD hk => (b3.keep D (Array.getElem?_eq_some_iff.1 hD).1 (not_owned c2 hD hk)).1.trans hD
    have hLa := keepA _ _ q8 rfl
    have hDa := keepA _ _ q9 rfl
    refine ⟨_, run_beginRound hLa (hstate _ _), ?_⟩
    obtain ⟨W2, hW2⟩ : ∃ W2, Wa.putObj (w.heap.size + 1) (.loop { rec .ready none with state := .busy }) = W2 := ⟨_, rfl⟩
    have hltL : w.heap.size + 1 < Wa.heap.size := (Array.getElem?_eq_some_iff.1 hLa).1
    have hz2 : ZExt Z2 Wa Z2 W2 := by rw [← hW2]; exact book_z hLa rfl rfl
    have sr2 : SR cfg.P Z2 W2 j2 ta.mem := by rw [← hW2]; exact b2.book hLa rfl rfl
    have st2 : Stp Z w j s.mem Z2 W2 j2 ta.mem := by rw [← hW2]; exact ((q3.trans c3).trans b3).book (by omega) hLa rfl rfl
    have hL2 : W2.heap[w.heap.size + 1]? = some (.loop { rec .ready none with state := .busy }) := by rw [← hW2]; exact World.putObj_heap_same hltL
    have hD2 : W2.heap[w.heap.size]? = some (.deferred (some [])) := by rw [← hW2]; exact (World.putObj_heap_other (by omega)).trans hDa
    rw [hW2]
    refine ihb (w.heap.size + 1) _ _ _ heb a1 W2 Z2 j2 (b1.mono hz2 (JExt.refl _)) sr2 _ ?_
    intro a3 W3 ⟨Z3, j3, d1, d2, d3, d4⟩ hkb
    have keepB : ∀ (D : Nat) (o : Obj), W2.heap[D]? = some o → isBook o = true → W3.heap[D]? = some o := fun D o hD hk => (d3.keep D (Array.getElem?_eq_some_iff.1 hD).1 (not_owned sr2 hD hk)).1.trans hD
    have hL3 := keepB _ _ hL2 rfl
    have hD3 := keepB _ _ hD2 rfl
    have hlt3 : w.heap.size + 1 < W3.heap.size := (Array.getElem?_eq_some_iff.1 hL3).1
    have hsz : a3.tmps.size = a.tmps.size := (hkb.size.trans hka.size).trans p2
    have stE : ∀ (V0 : V), (∀ u, VR Z3 W3 j3 V0 u) → St Z3 W3 j3 ((forget t.env ws).set g V0) a := by
      intro V0 hV0
      refine St.setJunk ⟨by rw [forget_len, ← d1.len, hsz], fun i v hi => ?_⟩ g V0 hV0
      rcases forget_junk ws t.env i v hi with rfl | ⟨hni, hi⟩
      · have hlt : i < a.tmps.size := by
          have := (List.getElem?_eq_some_iff.1 hi).1
          rw [forget_len, ← d1.len, hsz] at this
          exact this
        exact ⟨_, Array.getElem?_eq_getElem hlt, .junk⟩
      · obtain ⟨z, hz, hvz⟩ := d1.val i v hi
        refine ⟨z, ?_, hvz⟩
        rw [← hz]
        exact (((hkb.tmps i fun h => hni (hws i (.inr (.inr h)))).trans (hka.tmps i fun h => hni (hws i (.inr (.inl h))))).trans (p3 i fun h => hni (hws i (.inl h)))).symm
    have zAll : ZExt Z1 w Z3 W3 := ((q5.trans c3.z).trans b3.z).trans (hz2.trans d3.z)
    have stAll : Stp Z w j s.mem Z3 W3 j3 t.mem := st2.trans d3
    have jAll : JK n0 j j3 := ((q4.trans c4).trans b4).trans d4
    have fin : ∀ (jump : Option Code), (Instr.endRound (w.heap.size + 1) jump).run cfg.P W3 = .ok (.bool jump.isNone) (W3.putObj (w.heap.size + 1) (.loop (rec (if jump.isNone then .ready else .done) jump))) ∧
        (W3.putObj (w.heap.size + 1) (.loop (rec (if jump.isNone then .ready else .done) jump))).heap[w.heap.size + 1]? = some (.loop (rec (if jump.isNone then .ready else .done) jump)) ∧
        (W3.putObj (w.heap.size + 1) (.loop (rec (if jump.isNone then .ready else .done) jump))).heap[w.heap.size]? = some (.deferred (some [])) ∧
        ZExt Z3 W3 Z3 (W3.putObj (w.heap.size + 1) (.loop (rec (if jump.isNone then .ready else .done) jump))) := by
      intro jump
      have := run_endRound (P := cfg.P) jump hL3
      refine ⟨by rw [hrec] at this ⊢; exact this, World.putObj_heap_same hlt3, (World.putObj_heap_other (by omega)).trans hD3, book_z hL3 rfl rfl⟩
    cases y2 with
    | norm =>
      obtain ⟨f1, f2, f3, f4⟩ := fin none
      refine ⟨_, _, f1, .inl ⟨rfl, Z3, j3, ⟨(forget t.env ws).set g (.rest ts ((l.drop (k + 1)).map .tup)), t.mem⟩, mm, d2.book hL3 rfl rfl, (stE _ fun _ => .rest).mono f4 (JExt.refl _), stAll.book (by omega) hL3 rfl rfl, jAll, zAll.trans f4, ?_, q7, f2, f3⟩⟩
      have hlen : g < ((forget t.env ws).set g (.rest ts ((l.drop (k + 1)).map .tup))).length := by
        rw [List.length_set, forget_len, ← d1.len, hsz]
        exact (Array.getElem?_eq_some_iff.1 hu0).1
      rw [List.length_set] at hlen
      exact List.getElem?_set_self hlen
    | exit i =>
      have q7' : some (Ex.exit i, (⟨(forget t.env ws).set g (.rest ts ((l.drop (k + 1)).map .tup)), t.mem⟩ : S)) = some (y0, s20) := q7
      clear q7
      cases q7'
      obtain ⟨f1, f2, f3, f4⟩ := fin (some (.exit i))
      exact ⟨_, _, f1, .inr ⟨rfl, Z3, j3, _, d2.book hL3 rfl rfl, (stE _ fun _ => .rest).mono f4 (JExt.refl _), stAll.book (by omega) hL3 rfl rfl, jAll, .inr ⟨i, rfl, fun e => hex (e ▸ exec_exits _ _ _ _ heb), rfl⟩, f2, f3⟩⟩
    | ret =>
      have q7' : some (Ex.ret, (⟨(forget t.env ws).set g (.rest ts ((l.drop (k + 1)).map .tup)), t.mem⟩ : S)) = some (y0, s20) := q7
      clear q7
      cases q7'
      obtain ⟨f1, f2, f3, f4⟩ := fin (some .ret)
      exact ⟨_, _, f1, .inr ⟨rfl, Z3, j3, _, d2.book hL3 rfl rfl, (stE _ fun _ => .rest).mono f4 (JExt.refl _), stAll.book (by omega) hL3 rfl rfl, jAll, .inl ⟨rfl, rfl⟩, f2, f3⟩⟩
end
end Go.Lite