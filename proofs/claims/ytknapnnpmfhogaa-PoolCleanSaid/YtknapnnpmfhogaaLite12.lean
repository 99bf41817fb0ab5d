/-
  One operation: the interpreter's is the model's.
-/
import Derived.Test.YtknapnnpmfhogaaLite11
namespace Go.Lite
open Go Go.MapKept
section
variable {P : Program} {Z Z' : Zs} {w w' : World} {j j' : J} {mem mem' : List O}
theorem okV {Post : Value → World → Prop} {s : Sem Value} {u : Value} {w1 : World} (h : s.run P w = .ok u w1) (hp : Post u w1) : OpOK P Post ((do pure (Next.value (← s)) : Sem Next).run P w) := by
  simp only [Sem.run_bind, h, Result.andThen_ok, Sem.run_pure]
  exact hp
theorem okU {Post : Value → World → Prop} {s : Sem Unit} {w1 : World} (h : s.run P w = .ok () w1) (hp : Post undef w1) : OpOK P Post ((do s; pure Next.skip : Sem Next).run P w) := by
  simp only [Sem.run_bind, h, Result.andThen_ok, Sem.run_pure]
  exact hp
theorem evalL_sound {env : List V} {ρ : Operand → Value} (hρ : ∀ x v, evalO env x = some v → VR Z w j v (ρ x)) {l : List Operand} {vs : List V} (h : mapO (evalO env) l = some vs) : VRs Z w j vs (l.map ρ) := by
  obtain ⟨hl, hg⟩ := mapO_get h
  refine ⟨by simp [hl], fun i v u hv hu => ?_⟩
  obtain ⟨x, hx, he⟩ := hg i v hv
  simp [hx] at hu
  subst hu
  exact hρ x v he
theorem VRs.append {vs ws : List V} {us xs : List Value} (h : VRs Z w j vs us) (h' : VRs Z w j ws xs) : VRs Z w j (vs ++ ws) (us ++ xs) := by
  refine ⟨by simp [h.1, h'.1], fun i v u hv hu => ?_⟩
  by_cases hi : i < vs.length
  · rw [List.getElem?_append_left hi] at hv
    rw [List.getElem?_append_left (by rw [← h.1]; exact hi)] at hu
    exact h.2 i v u hv hu
  · rw [List.getElem?_append_right (by omega)] at hv
    rw [List.getElem?_append_right (by rw [← h.1]; omega), ← h.1] at hu
    exact h'.2 _ v u hv hu
theorem boundR_of {env : List V} {ρ : Operand → Value} (hρ : ∀ x v, evalO env x = some v → VR Z w j v (ρ x)) (o : Option Operand) : BoundR Z w j (o.map (evalO env)) (o.map ρ) := by
  cases o with
  | none => trivial
  | some x =>
    simp only [Option.map_some]
    cases hx : evalO env x with
    | none => trivial
    | some v => exact hρ x v hx
theorem run_callFunc {f : FuncId} {args : Array Value} (h : fnOk P f = true) : (callFunc f args).run P w = .ok (.enter f args) w := by
  unfold fnOk at h
  cases hf : P.funcs[f]? with
  | none => simp [hf] at h
  | some fn =>
    simp only [hf, Bool.and_eq_true, bne_iff_ne, ne_eq] at h
    cases hb : fn.body with
    | none => simp [hb] at h
    | some c => simp [callFunc, hf, hb, h.2]
theorem builtin_sound (s : SR P Z w j mem) {b : Builtin} {ts : Array TypeId} {ty : TypeId} {consts : Array Bool} {args : List V} {us : List Value} {v : V} (h : builtinA P b mem ts.toList args = some (v, mem')) (ha : VRs Z w j args us) :
    OpOK P (PostOf P Z w j mem v mem') ((builtin b ts ty consts us.toArray).run P w) := by
  cases b <;> simp only [builtinA] at h <;> first | (cases h; done) | skip
  case len =>
    cases hts : ts.toList with
    | nil => simp [hts, lenB] at h
    | cons t rest =>
      cases args with
      | nil => simp [hts, lenB] at h
      | cons x xs =>
        simp only [hts, lenB] at h
        cases hl : lenA P mem t x with
        | none => simp [hl] at h
        | some r =>
          simp [hl] at h
          obtain ⟨rfl, rfl⟩ := h
          cases us with
          | nil => have := ha.1; simp at this
          | cons u us =>
            have hv := ha.2 0 x u rfl rfl
            have ht0 : ts[0]? = some t := by rw [← Array.getElem?_toList, hts]; rfl
            obtain ⟨r', h1, h2⟩ := len_sound (ty := ty) s (ts := ts) (us := (u :: us).toArray) ht0 (by simp) hl hv
            exact okV h1 (post_refl s h2)
  case append =>
    unfold appendB at h
    split at h
    · rename_i t t' sv x ht
      split at h
      · rename_i he
        match us, ha with
        | [u, ux], ha =>
          obtain ⟨r', w1, h1, h2⟩ := append_sound (ty := ty) s he h (ha.2 0 sv u rfl rfl) (ha.2 1 x ux rfl rfl)
          have hts : ts = #[t, t'] := by apply Array.ext'; rw [ht]
          subst hts
          exact okV h1 h2
        | [], ha => have := ha.1; simp at this
        | [_], ha => have := ha.1; simp at this
        | _ :: _ :: _ :: _, ha => have := ha.1; simp at this
      · cases h
    · cases h
  case copy =>
    unfold copyB at h
    split at h
    · rename_i t t' sv x ht
      split at h
      · rename_i he
        match us, ha with
        | [u, ux], ha =>
          obtain ⟨r', w1, h1, h2⟩ := copy_sound (ty := ty) s he h (ha.2 0 sv u rfl rfl) (ha.2 1 x ux rfl rfl)
          have hts : ts = #[t, t'] := by apply Array.ext'; rw [ht]
          subst hts
          exact okV h1 h2
        | [], ha => have := ha.1; simp at this
        | [_], ha => have := ha.1; simp at this
        | _ :: _ :: _ :: _, ha => have := ha.1; simp at this
      · cases h
    · cases h
  case clear =>
    unfold clearB at h
    split at h
    · rename_i t sv ht
      match us, ha with
      | [u], ha =>
        obtain ⟨r', w1, h1, h2⟩ := clear_sound (ty := ty) s h (ha.2 0 sv u rfl rfl)
        have hts : ts = #[t] := by apply Array.ext'; rw [ht]
        subst hts
        exact okV h1 h2
      | [], ha => have := ha.1; simp at this
      | _ :: _ :: _, ha => have := ha.1; simp at this
    · cases h
  case min =>
    cases args with
    | nil => simp [foldB] at h
    | cons x xs =>
      simp only [foldB] at h
      cases hl : foldO min2 x xs with
      | none => simp [hl] at h
      | some r =>
        simp [hl] at h
        obtain ⟨rfl, rfl⟩ := h
        cases us with
        | nil => have := ha.1; simp at this
        | cons u us =>
          obtain ⟨r', h1, h2⟩ := fold_sound (P := P) (g := Builtin.min2) (fun a b v u u' h ha hb => min2_sound h ha hb) xs us x r u hl (ha.2 0 x u rfl rfl) (by have := ha.1; simp at this; exact this.symm) (fun i c u' hc hu => ha.2 (i + 1) c u' (by simpa using hc) (by simpa using hu))
          exact okV (s := Builtin.min_ ts ty (u :: us).toArray) (by simpa [Builtin.min_] using h1) (post_refl s h2)
  case max =>
    cases args with
    | nil => simp [foldB] at h
    | cons x xs =>
      simp only [foldB] at h
      cases hl : foldO max2 x xs with
      | none => simp [hl] at h
      | some r =>
        simp [hl] at h
        obtain ⟨rfl, rfl⟩ := h
        cases us with
        | nil => have := ha.1; simp at this
        | cons u us =>
          obtain ⟨r', h1, h2⟩ := fold_sound (P := P) (g := Builtin.max2) (fun a b v u u' h ha hb => max2_sound h ha hb) xs us x r u hl (ha.2 0 x u rfl rfl) (by have := ha.1; simp at this; exact this.symm) (fun i c u' hc hu => ha.2 (i + 1) c u' (by simpa using hc) (by simpa using hu))
          exact okV (s := Builtin.max_ ts ty (u :: us).toArray) (by simpa [Builtin.max_] using h1) (post_refl s h2)
  case delete =>
    unfold deleteB at h
    split at h
    · rename_i t rest m k ht
      cases hm : mapAt mem m with
      | none => simp [hm] at h
      | some es =>
        simp only [hm, Option.bind_some] at h
        split at h
        · rename_i hfit
          cases hd : mapDel es k with
          | none => simp [hd] at h
          | some out =>
            simp [hd] at h
            obtain ⟨rfl, rfl⟩ := h
            match us, ha with
            | [u, uk], ha =>
              have ht0 : ts[0]? = some t := by rw [← Array.getElem?_toList, ht]; rfl
              obtain ⟨w1, h1, h2⟩ := delete_sound (ty := ty) (ts := ts) (us := #[u, uk]) s ht0 rfl rfl hm hfit hd (ha.2 0 _ u rfl rfl) (ha.2 1 k uk rfl rfl)
              exact okV h1 h2
            | [], ha => have := ha.1; simp at this
            | [_], ha => have := ha.1; simp at this
            | _ :: _ :: _ :: _, ha => have := ha.1; simp at this
        · cases h
    · cases h
theorem lazy_alloc {t : TypeId} {z : V} (hz : zeroV P t = some z) (hl : z.cells.length = P.cellsOf t) (ho : z.cells.all V.one = true) :
    ∃ us, (Instr.alloc t true (.tuple #[])).run P w = .ok (.pointer (some ⟨w.heap.size, 0, none⟩)) (w.alloc (.cells us t)) ∧ us.size = P.cellsOf t := by
  obtain ⟨i, zv, hi, hzv, hvz, _⟩ := zeroV_sound (P := P) (Z := ⟨fun _ _ => False, fun _ _ => none, fun _ => none⟩) (w := w) (j := j0) hz
  obtain ⟨hcs, _⟩ := hvz.cellsOf (one_of_all ho)
  exact ⟨zv.cells, by simp [Instr.alloc, zeroValue, typeInfo, hi, hzv, newVar, Go.newRow, newObj, Sem.run], by rw [hcs, hl]⟩
theorem op_sound {cfg : Cfg} {call : CallF} (hp : PureOK cfg.P call.pc) (hi : ImpOK cfg.P call.ic) {dr : Bool} {o : Oper} {g : Option (Nat × Bool)} {bx sq rx : Bool} {env : List V} {ρ : Operand → Value} {v : V}
    (s : SR cfg.P Z w j mem) (hρ : ∀ x v, evalO env x = some v → VR Z w j v (ρ x)) (h : opA cfg call dr ⟨o.dst, o.op, o.type, g, bx, sq, rx⟩ env mem = some (v, mem')) :
    OpOK cfg.P (PostOf cfg.P Z w j mem v mem') ((execOp ρ o).run cfg.P w) := by
  unfold execOp
  simp only [opA] at h
  cases hop : o.op <;> simp only [hop] at h ⊢ <;> first | (cases h; done) | skip
  case move x =>
    cases hx : evalO env x with
    | none => simp [hx] at h
    | some a =>
      simp [hx] at h
      obtain ⟨rfl, rfl⟩ := h
      exact post_refl s (hρ x _ hx)
  case nilCheck x =>
    cases hx : evalO env x with
    | none => simp [hx] at h
    | some a =>
      simp only [hx, Option.bind_some] at h
      split at h
      · rename_i hs
        cases h
        have hv := hρ x _ hx
        generalize ρ x = u at hv ⊢
        cases v <;> first | (simp [solid] at hs; done) | skip
        · have hv' := hv
          cases hv
          exact post_refl s hv'
        · have hv' := hv
          cases hv
          exact post_refl s hv'
        · have hv' := hv
          cases hv
          exact post_refl s hv'
      · cases h
  case assign x =>
    cases hx : evalO env x with
    | none => simp [hx] at h
    | some a =>
      simp only [hx, Option.bind_some] at h
      have same : some (a, mem) = some (v, mem') → OpOK cfg.P (PostOf cfg.P Z w j mem v mem') ((Pure.pure (Next.value (ρ x)) : Sem Next).run cfg.P w) := by
        intro h
        cases h
        exact post_refl s (hρ x _ hx)
      cases a <;> simp only at h <;> first | exact same h | skip
      split at h
      · exact same h
      · split at h
        · split at h
          · rename_i e he hroom
            cases h
            have hv := hρ x _ hx
            cases hrx : ρ x <;> rw [hrx] at hv <;> cases hv
            exact rowV_sound s (roomy_spec hroom).2.2.1
          · exact same h
        · exact same h
  case pick c a b =>
    cases hc : evalO env c with
    | none => simp [hc] at h
    | some vc =>
      cases ha : evalO env a with
      | none => simp [hc, ha] at h
      | some va =>
        cases hb : evalO env b with
        | none => simp [hc, ha, hb] at h
        | some vb =>
          simp only [hc, ha, hb, Option.bind_some] at h
          have hv := hρ c _ hc
          cases vc <;> simp only at h <;> first | (cases h; done) | skip
          rename_i t
          cases h
          cases hrc : ρ c <;> rw [hrc] at hv <;> cases hv
          simp only [asBool, Sem.run_bind, Sem.run_pure, Result.andThen_ok]
          cases t
          · exact post_refl s (hρ b _ hb)
          · exact post_refl s (hρ a _ ha)
  case alloc t =>
    cases hz : zeroV cfg.P t with
    | none => simp [hz] at h
    | some z =>
      simp only [hz, Option.bind_some] at h
      split at h
      · rename_i hc
        split at h
        · cases h
          obtain ⟨us, h1, h2⟩ := lazy_alloc (w := w) hz hc.1 hc.2
          exact okV h1 ⟨Z, j, .junk, s.alloc _, Stp.alloc s _, JExt.refl _⟩
        split at h
        · cases h
        obtain ⟨r, w1, h1, h2⟩ := allocA_sound s h hz hc.1 hc.2
        exact okV h1 h2
      · cases h
  case box t x =>
    cases hx : evalO env x with
    | none => simp [hx] at h
    | some a =>
      simp only [hx, Option.bind_some] at h
      split at h
      · cases h
      split at h
      · rename_i hc
        split at h
        · cases h
        obtain ⟨r, w1, h1, h2⟩ := boxA_sound s h hc.1 hc.2 (hρ x _ hx)
        exact okV h1 h2
      · cases h
  case build t parts =>
    cases hps : mapO (partO env) parts.toList with
    | none => simp [hps] at h
    | some ps =>
      cases hb : buildA cfg.P t ps with
      | none => simp [hps, hb] at h
      | some r =>
        simp [hps, hb] at h
        obtain ⟨rfl, rfl⟩ := h
        have hpr := parts_sound hρ parts.toList ps hps
        obtain ⟨r', h1, h2⟩ := build_sound (P := cfg.P) (qs := parts.map fun p => (p.1, ρ p.2)) hb (by simpa using hpr)
        exact okV h1 (post_refl s h2)
  case buildSlice t len parts =>
    cases hps : mapO (partO env) parts.toList with
    | none => simp [hps] at h
    | some ps =>
      cases he : elemOf cfg.P t with
      | none => simp [hps, he] at h
      | some e =>
        cases hl : litEls 0 ps with
        | none => simp [hps, he, hl] at h
        | some els =>
          simp only [hps, he, hl, Option.bind_some] at h
          split at h
          · rename_i hc
            have hpr := parts_sound hρ parts.toList ps hps
            obtain ⟨r', w1, h1, h2, h3⟩ := buildSlice_sound (qs := parts.map fun p => (p.1, ρ p.2)) s he hl hc.1 hc.2.1 hc.2.2.1 (by
              rw [List.all_eq_true]
              intro y hy
              have := List.all_eq_true.1 hc.2.2.2 y hy
              simp only [Bool.and_eq_true] at this
              exact this.1) (by simpa using hpr)
            cases bx
            · change some (newRow mem e els 0) = _ at h
              injection h with h
              rw [h] at h2
              exact okV h1 h2
            · change some (V.lit e els, mem) = _ at h
              cases h
              exact okV h1 h3
          · cases h
  case load t a =>
    cases hx : evalO env a with
    | none => simp [hx] at h
    | some p =>
      cases hl : loadM cfg.P mem t p with
      | none => simp [hx, hl] at h
      | some r =>
        simp only [hx, hl, Option.bind_some, Option.map_some] at h
        split at h
        · cases h
        obtain ⟨rfl, rfl⟩ := h
        obtain ⟨r', h1, h2⟩ := load_sound s hl (hρ a _ hx)
        exact okV h1 (post_refl s h2)
  case store t a x =>
    cases hx : evalO env a with
    | none => simp [hx] at h
    | some p =>
      cases hy : evalO env x with
      | none => simp [hx, hy] at h
      | some q =>
        simp only [hx, hy, Option.bind_some] at h
        split at h
        · cases h
        cases hl : storeM cfg.P mem t p q with
        | none => simp [hl] at h
        | some r =>
          simp [hl] at h
          obtain ⟨rfl, rfl⟩ := h
          obtain ⟨w1, h1, h2⟩ := store_sound s hl (hρ a _ hx) (hρ x _ hy)
          exact okU h1 h2
  case binOp op t x y yt =>
    cases hx : evalO env x with
    | none => simp [hx] at h
    | some p =>
      cases hy : evalO env y with
      | none => simp [hx, hy] at h
      | some q =>
        cases hl : binA cfg.P op t p q with
        | none => simp [hx, hy, hl] at h
        | some r =>
          simp [hx, hy, hl] at h
          obtain ⟨rfl, rfl⟩ := h
          obtain ⟨r', h1, h2⟩ := bin_sound x y hl (hρ x _ hx) (hρ y _ hy)
          exact okV h1 (post_refl s h2)
  case unOp op t x =>
    cases hx : evalO env x with
    | none => simp [hx] at h
    | some p =>
      cases hl : unA op p with
      | none => simp [hx, hl] at h
      | some r =>
        simp [hx, hl] at h
        obtain ⟨rfl, rfl⟩ := h
        obtain ⟨r', h1, h2⟩ := un_sound (P := cfg.P) hl (hρ x _ hx)
        exact okV h1 (post_refl s h2)
  case convert st d x =>
    cases hx : evalO env x with
    | none => simp [hx] at h
    | some p =>
      cases hl : convA cfg.P (if dr then [] else mem) st d p with
      | none => simp [hx, hl] at h
      | some r =>
        simp only [hx, hl, Option.bind_some, Option.map_some, Option.some.injEq, Prod.mk.injEq] at h
        obtain ⟨rfl, rfl⟩ := h
        obtain ⟨r', w1, h1, h2⟩ := conv_sound (P := cfg.P) s (by cases dr <;> simp) hl (hρ x _ hx)
        exact okV h1 h2
  case makeSlice t n c =>
    cases hx : evalO env n with
    | none => simp [hx] at h
    | some p =>
      cases hy : evalO env c with
      | none => simp [hx, hy] at h
      | some q =>
        simp only [hx, hy, Option.bind_some] at h
        obtain ⟨r', w1, h1, h2⟩ := make_sound s h (hρ n _ hx) (hρ c _ hy)
        exact okV h1 h2
  case slice t x lo hh mx =>
    cases hx : evalO env x with
    | none => simp [hx] at h
    | some p =>
      cases hl : sliceA cfg.P mem t p (lo.map (evalO env)) (hh.map (evalO env)) (mx.map (evalO env)) with
      | none => simp [hx, hl] at h
      | some r =>
        simp [hx, hl] at h
        obtain ⟨_, rfl, rfl⟩ := h
        obtain ⟨r', h1, h2⟩ := slice_sound s hl (hρ x _ hx) (boundR_of hρ lo) (boundR_of hρ hh) (boundR_of hρ mx)
        exact okV h1 (post_refl s h2)
  case fieldAddr st x f =>
    cases hx : evalO env x with
    | none => simp [hx] at h
    | some p =>
      cases hl : fieldAddrA cfg.P st p f with
      | none => simp [hx, hl] at h
      | some r =>
        simp [hx, hl] at h
        obtain ⟨rfl, rfl⟩ := h
        obtain ⟨r', h1, h2⟩ := fieldAddr_sound hl (hρ x _ hx)
        exact okV h1 (post_refl s h2)
  case field st x f =>
    cases hx : evalO env x with
    | none => simp [hx] at h
    | some p =>
      simp only [hx, Option.bind_some] at h
      cases p <;> simp only at h <;> first | (cases h; done) | skip
      rename_i cs
      cases hf : fieldOf cfg.P st f with
      | none => simp [hf] at h
      | some r =>
        obtain ⟨off, t⟩ := r
        cases hl : partA cfg.P t cs off with
        | none => simp [hf, hl] at h
        | some r =>
          simp [hf, hl] at h
          obtain ⟨rfl, rfl⟩ := h
          obtain ⟨r', h1, h2⟩ := field_sound hf hl (hρ x _ hx)
          exact okV h1 (post_refl s h2)
  case indexAddr t x i =>
    cases hx : evalO env x with
    | none => simp [hx] at h
    | some p =>
      cases hy : evalO env i with
      | none => simp [hx, hy] at h
      | some q =>
        cases hl : indexAddrA cfg.P mem t p q with
        | none => simp [hx, hy, hl] at h
        | some r =>
          simp [hx, hy, hl] at h
          obtain ⟨_, rfl, rfl⟩ := h
          obtain ⟨r', h1, h2⟩ := indexAddr_sound s hl (hρ x _ hx) (hρ i _ hy)
          exact okV h1 (post_refl s h2)
  case index t x i =>
    cases hx : evalO env x with
    | none => simp [hx] at h
    | some p =>
      cases hy : evalO env i with
      | none => simp [hx, hy] at h
      | some q =>
        cases hl : indexA cfg.P t p q with
        | none => simp [hx, hy, hl] at h
        | some r =>
          simp [hx, hy, hl] at h
          obtain ⟨rfl, rfl⟩ := h
          obtain ⟨r', h1, h2⟩ := index_sound (P := cfg.P) hl (hρ x _ hx) (hρ i _ hy)
          exact okV h1 (post_refl s h2)
  case extract t i =>
    cases hx : evalO env t with
    | none => simp [hx] at h
    | some p =>
      simp only [hx, Option.bind_some] at h
      cases p <;> simp only at h <;> first | (cases h; done) | skip
      rename_i vs
      cases hg : vs[i]? with
      | none => simp [hg] at h
      | some r =>
        simp [hg] at h
        obtain ⟨rfl, rfl⟩ := h
        obtain ⟨us, hu, hr⟩ := (hρ t _ hx).tupInv
        obtain ⟨u, hu2, hv2⟩ := hr.2 i _ hg
        rw [hu]
        exact okV (s := Instr.extract (.tuple us) i) (by simp [Instr.extract, hu2]) (post_refl s hv2)
  case makeFunc fn first caps =>
    cases fn <;> simp only at h <;> first | (cases h; done) | skip
    rename_i f
    split at h
    · rename_i hf
      cases hm : mapO (evalO env) caps.toList with
      | none => simp [hm] at h
      | some cs =>
        simp [hm] at h
        obtain ⟨rfl, rfl⟩ := h
        have hL := evalL_sound hρ hm
        have e1 : first.map ρ = #[] := by
          have : first = #[] := by simpa using hf
          rw [this]; simp
        have e2 : caps.map ρ = (caps.toList.map ρ).toArray := Array.ext' (by simp)
        rw [e1, e2]
        exact okV (s := Instr.makeFunc (.func f) #[] (caps.toList.map ρ).toArray) rfl (post_refl s (.fn hL.1 hL.2))
    · cases h
  case makeMap t r =>
    cases r <;> simp only at h <;> first | (cases h; done) | skip
    split at h
    · split at h
      · cases h
      · obtain ⟨r', w1, h1, h2⟩ := makeMapA_sound s (t := t)
        rw [Option.some.inj h] at h2
        exact okV h1 h2
    · cases h
  case lookup t m k ok =>
    cases hx : evalO env m with
    | none => simp [hx] at h
    | some p =>
      cases hy : evalO env k with
      | none => simp [hx, hy] at h
      | some q =>
        simp only [hx, hy, Option.bind_some] at h
        cases hm : mapAt mem p with
        | none => simp [hm] at h
        | some es =>
          simp only [hm, Option.bind_some] at h
          split at h
          · rename_i hfit
            cases he : mapKey cfg.P t with
            | none => simp [he] at h
            | some e =>
              cases hz : zeroV cfg.P e with
              | none => simp [he, hz] at h
              | some z =>
                cases hf : mapFind es q with
                | none => simp [he, hf] at h
                | some r =>
                  simp only [he, hz, hf, Option.bind_some, Option.map_some] at h
                  cases h
                  obtain ⟨r', h1, h2⟩ := lookup_sound (ok := ok) s hm hfit he hz hf (hρ m _ hx) (hρ k _ hy)
                  exact okV h1 (post_refl s h2)
          · cases h
  case mapUpdate t m k x =>
    cases hx : evalO env m with
    | none => simp [hx] at h
    | some p =>
      cases hy : evalO env k with
      | none => simp [hx, hy] at h
      | some q =>
        cases hz : evalO env x with
        | none => simp [hx, hy, hz] at h
        | some y =>
          simp only [hx, hy, hz, Option.bind_some] at h
          cases hm : mapAt mem p with
          | none => simp [hm] at h
          | some es =>
            simp only [hm, Option.bind_some] at h
            split at h
            · rename_i hc
              cases hf : mapPut es q y with
              | none => simp [hf] at h
              | some out =>
                simp [hf] at h
                obtain ⟨rfl, rfl⟩ := h
                obtain ⟨w1, h1, h2⟩ := update_sound s hm hc.1 hc.2 hf (hρ m _ hx) (hρ k _ hy) (hρ x _ hz)
                exact okU h1 h2
            · cases h
  case call c =>
    cases hcal : c.callee <;> simp only [hcal] at h <;> first | (cases h; done) | skip
    case builtin b =>
      cases ha : mapO (evalO env) c.args.toList with
      | none => simp [ha] at h
      | some args =>
        simp only [ha, Option.bind_some] at h
        split at h
        · cases h
        have hL := evalL_sound hρ ha
        have := builtin_sound (ty := o.type) (consts := c.args.map fun | .const _ => true | _ => false) s h hL
        have e2 : c.args.map ρ = (c.args.toList.map ρ).toArray := Array.ext' (by simp)
        simp only [resolve, hcal, Sem.run_bind, Sem.run_pure, Result.andThen_ok, invoke, e2]
        exact this
    case value f =>
      cases hf : evalO env f with
      | none => simp [hf] at h
      | some fv =>
        cases ha : mapO (evalO env) c.args.toList with
        | none => simp [hf, ha] at h
        | some args =>
          simp only [hf, ha, Option.bind_some] at h
          cases fv <;> simp only at h <;> first | (cases h; done) | skip
          rename_i fid caps
          have hL := evalL_sound hρ ha
          have hfv := hρ f _ hf
          cases hrf : ρ f <;> rw [hrf] at hfv <;> cases hfv
          rename_i us hl hh
          have both : fnOk cfg.P fid = true ∧ Calls cfg.P fid (c.args.toList.map ρ ++ us).toArray w fun e w1 => ∃ u, e = .returned u ∧ PostOf cfg.P Z w j mem v mem' u w1 := by
            split at h
            · split at h
              · rename_i hfr
                simp only [Bool.and_eq_true] at hfr
                exact ⟨hfr.2, framed_sound hi s h hfr.2 (hL.append ⟨hl, hh⟩)⟩
              · cases h
            · exact call_sound hp hi s h (hL.append ⟨hl, hh⟩)
          obtain ⟨hok, hcall⟩ := both
          have e2 : c.args.map ρ = (c.args.toList.map ρ).toArray := Array.ext' (by simp)
          simp only [resolve, hcal, hrf, Deferred.ofValue, Sem.run_bind, Sem.run_pure, Result.andThen_ok, invoke, e2]
          have e3 : (#[] ++ (c.args.toList.map ρ).toArray ++ us.toArray : Array Value) = (c.args.toList.map ρ ++ us).toArray := by simp
          rw [e3, run_callFunc hok]
          exact hcall
theorem memless_val {env : List V} {ρ : Operand → Value} (hρ : ∀ x v, evalO env x = some v → VR Z w j v (ρ x)) : ∀ x v, evalO (memless env) x = some v → VR Z w j0 v (ρ x) := by
  intro x v h
  have hr : RhoOK (fun _ => none) j j0 := fun i k h => by cases h
  cases x with
  | tmp t =>
    simp only [evalO, memless, List.getElem?_map, Option.map_eq_some_iff] at h
    obtain ⟨v0, h0, rfl⟩ := h
    exact (hρ (.tmp t) v0 h0).ren2 hr
  | const c =>
    have h1 := hρ (.const c) v h
    simp only [evalO] at h
    have h2 := h1.ren2 hr
    have e : Lite.ren2 (fun _ => none) v = v := by
      unfold constV at h
      split at h <;> first | (cases h; rfl) | (cases h; done) | skip
      split at h <;> cases h
      rfl
    rwa [e] at h2
  | global g => simp [evalO] at h
  | func f =>
    have h1 := hρ (.func f) v h
    simp [evalO] at h
    subst h
    have h2 := h1.ren2 hr
    exact h2
theorem opX_sound {cfg : Cfg} {call : CallF} (hp : PureOK cfg.P call.pc) (hi : ImpOK cfg.P call.ic) {dr : Bool} {o : Oper} {g : Option (Nat × Bool)} {bx sq rx : Bool} {env : List V} {ρ : Operand → Value} {v : V}
    (s : SR cfg.P Z w j mem) (hρ : ∀ x v, evalO env x = some v → VR Z w j v (ρ x)) (h : opX cfg call dr ⟨o.dst, o.op, o.type, g, bx, sq, rx⟩ env mem = some (v, mem')) :
    OpOK cfg.P (PostOf cfg.P Z w j mem v mem') ((execOp ρ o).run cfg.P w) := by
  unfold opX at h
  split at h
  rotate_left
  · exact op_sound hp hi s hρ h
  cases ho : opA cfg call true ⟨o.dst, o.op, o.type, g, bx, sq, rx⟩ (memless env) [] with
  | none => simp [ho] at h
  | some r =>
    obtain ⟨v1, m1⟩ := r
    simp only [ho, Option.bind_some] at h
    have s0 : SR cfg.P Z w j0 [] := ⟨fun id o h => by simp at h, fun id id' o o' g h => by simp at h, fun _ _ => rfl, s.zin⟩
    cases m1 with
    | cons q qs =>
      simp only [Option.map_eq_some_iff] at h
      obtain ⟨v2, hsn, h⟩ := h
      cases h
      have key := op_sound hp hi s0 (memless_val hρ) ho
      have imp : ∀ u w1, PostOf cfg.P Z w j0 [] v1 (q :: qs) u w1 → PostOf cfg.P Z w j mem v mem u w1 := by
        rintro u w1 ⟨Z1, j1, hv, s1, st, je⟩
        have no : ∀ g, ¬ Owned Z j0 [] g := by
          rintro g ⟨id, o, ho, _⟩; simp at ho
        have za : Z1.a = Z.a := funext fun t => (st.ar t fun id o n ho => by simp at ho).2
        obtain ⟨sf, _⟩ := freezeAll_sound (ids2 (q :: qs) v1) Z1 (q :: qs) s1
        have hv2 := snap2_sound s1 hsn (ids := ids2 (q :: qs) v1) (fun i hi => hi) hv
        have hz2 : ZExt Z w (Zor Z1 (Fz cfg.P j1 (q :: qs) (ids2 (q :: qs) v1))) w1 := st.z.trans (ZExt.or _ _ _)
        have hz3 : ∀ g, g < w.heap.size → ∀ o, Zor Z1 (Fz cfg.P j1 (q :: qs) (ids2 (q :: qs) v1)) g o ↔ Z g o := fun g hg o => ⟨fun h => by
          rcases h with h | ⟨id, _, h2, h3⟩
          · exact ((st.keep g hg (no g)).2 o).1 h
          · exact absurd (st.owned g hg (objLen_block s1 h2 h3)) (no g), fun h => .inl (((st.keep g hg (no g)).2 o).2 h)⟩
        refine ⟨_, j, hv2.mono (ZExt.refl _ _) (JExt.zero _), s.world hz2 (fun g hg => ⟨(st.keep g (Owned.lt s hg) (no g)).1, hz3 g (Owned.lt s hg)⟩) sf.zin za,
          ⟨st.os, st.tape, st.output, st.size, fun g hg _ => ⟨(st.keep g hg (no g)).1, hz3 g hg⟩, fun _ _ ho => (Owned.eqA za).1 ho, hz2, fun t h => ⟨h, congrFun za t⟩⟩, JExt.refl _⟩
      revert key
      unfold OpOK
      split
      · intro h; exact imp _ _ h
      · intro h; exact imp _ _ h
      · intro h; exact h.mono fun e w1 hx => by
          obtain ⟨u, h1, h2⟩ := hx
          exact ⟨u, h1, imp _ _ h2⟩
      · exact id
    | nil =>
      cases h
      have key := op_sound hp hi s0 (memless_val hρ) ho
      have imp : ∀ u w1, PostOf cfg.P Z w j0 [] v [] u w1 → PostOf cfg.P Z w j mem v mem u w1 := by
        rintro u w1 ⟨Z1, j1, hv, s1, st, je⟩
        have hj1 : ∀ id, j1 id = none := fun id => s1.out id (Nat.zero_le _)
        have no : ∀ g, ¬ Owned Z j0 [] g := by
          rintro g ⟨id, o, ho, _⟩; simp at ho
        have za : Z1.a = Z.a := funext fun t => (st.ar t fun id o n ho => by simp at ho).2
        have hv' : VR Z1 w1 j v u := hv.mono (ZExt.refl _ _) fun id h e => by rw [hj1 id] at e; cases e
        refine ⟨Z1, j, hv', s.world st.z (fun g hg => st.keep g (Owned.lt s hg) (no g)) s1.zin za, ⟨st.os, st.tape, st.output, st.size, fun g hg _ => st.keep g hg (no g), fun _ _ ho => (Owned.eqA za).1 ho, st.z, fun t h => ⟨h, congrFun za t⟩⟩, JExt.refl _⟩
      revert key
      unfold OpOK
      split
      · intro h; exact imp _ _ h
      · intro h; exact imp _ _ h
      · intro h; exact h.mono fun e w1 hx => by
          obtain ⟨u, h1, h2⟩ := hx
          exact ⟨u, h1, imp _ _ h2⟩
      · exact id
end
end Go.Lite