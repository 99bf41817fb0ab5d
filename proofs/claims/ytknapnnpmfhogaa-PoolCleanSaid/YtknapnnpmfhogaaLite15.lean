/-
  Lists of operations in whatever order: the theorem.
-/
import Derived.Test.YtknapnnpmfhogaaLite14
namespace Go.Lite
open Go Go.MapKept
section
variable {P : Program} {Z Z' : Zs} {w w' : World} {j j' : J} {mem mem' : List O}
theorem ancs_spec : ∀ (l : List Oper) (acc : List (List Nat)), (ancs l acc).length = acc.length + l.length ∧ (∀ k, k < acc.length → (ancs l acc)[k]? = acc[k]?) ∧
    ∀ (m : Nat) (o : Oper), l[m]? = some o → ∀ i, i ∈ (ancs l acc).getD (acc.length + m) [] → ∃ e ∈ o.after, Region.binds .any e = true ∧ (i = e.on ∨ (e.on < acc.length + m ∧ i ∈ (ancs l acc).getD e.on [])) := by
  intro l
  induction l with
  | nil => intro acc; exact ⟨rfl, fun _ _ => rfl, fun m o h => by simp at h⟩
  | cons o l ih =>
    intro acc
    simp only [ancs]
    obtain ⟨h1, h2, h3⟩ := ih (acc ++ [(o.after.toList.flatMap fun e => if Region.binds .any e then e.on :: acc.getD e.on [] else []).eraseDups])
    refine ⟨by rw [h1]; simp; omega, fun k hk => by rw [h2 k (by simp; omega), List.getElem?_append_left hk], fun m q hq i hi => ?_⟩
    cases m with
    | zero =>
      simp at hq
      subst hq
      have e0 := h2 acc.length (by simp)
      rw [List.getElem?_append_right (Nat.le_refl _)] at e0
      simp only [Nat.sub_self, List.getElem?_cons_zero] at e0
      rw [Nat.add_zero, List.getD_eq_getElem?_getD, e0] at hi
      simp only [Option.getD_some, List.mem_eraseDups, List.mem_flatMap] at hi
      obtain ⟨e, he, hi⟩ := hi
      split at hi
      · rename_i hb
        refine ⟨e, by simpa using he, hb, ?_⟩
        simp only [List.mem_cons] at hi
        rcases hi with rfl | hi
        · exact .inl rfl
        · right
          have hlt : e.on < acc.length := by
            rcases Nat.lt_or_ge e.on acc.length with h | h
            · exact h
            · rw [List.getD_eq_getElem?_getD, List.getElem?_eq_none h] at hi; simp at hi
          refine ⟨by omega, ?_⟩
          rw [List.getD_eq_getElem?_getD, h2 _ (by simp; omega), List.getElem?_append_left hlt, ← List.getD_eq_getElem?_getD]
          exact hi
      · simp at hi
    | succ m =>
      have := h3 m q (by simpa using hq) i (by simpa [Nat.add_assoc, Nat.add_comm 1 m] using hi)
      simpa [Nat.add_assoc, Nat.add_comm 1 m] using this
def Closed (ops : Array Oper) (D : Nat → Bool) : Prop := ∀ k o, ops[k]? = some o → D k = true → ∀ e ∈ o.after, Region.binds .any e = true → D e.on = true
theorem closed_anc {ops : Array Oper} {D : Nat → Bool} (hc : Closed ops D) : ∀ (k : Nat) (o : Oper), ops[k]? = some o → (∀ e ∈ o.after, Region.binds .any e = true → D e.on = true) → ∀ i, i ∈ (ancs ops.toList []).getD k [] → D i = true := by
  intro k
  induction k using Nat.strongRecOn with
  | _ k ih =>
    intro o ho hall i hi
    have := (ancs_spec ops.toList []).2.2 k o (by simpa using ho) i (by simpa using hi)
    obtain ⟨e, he, hb, h⟩ := this
    rcases h with rfl | ⟨hlt, h⟩
    · exact hall e he hb
    · simp at hlt
      have hD := hall e he hb
      cases hoe : ops[e.on]? with
      | none =>
        have hlen := (ancs_spec ops.toList []).1
        have : ops.size ≤ e.on := by simpa using hoe
        rw [List.getD_eq_getElem?_getD, List.getElem?_eq_none (by rw [hlen]; simpa using this)] at h
        simp at h
      | some oe => exact ih e.on hlt oe hoe (hc e.on oe hoe hD) i h
theorem draw_spec {ops : Array Oper} {l : List OpA} (h : drawOk ops l = true) : (∀ k o, ops[k]? = some o → ∀ e ∈ o.after, Region.binds .any e = true → e.on < k) ∧
    ∀ i k oi ok, i < k → l[i]? = some oi → l[k]? = some ok → clash oi ok = true → i ∈ (ancs ops.toList []).getD k [] := by
  simp only [drawOk, Bool.and_eq_true, List.all_eq_true, List.mem_range] at h
  obtain ⟨⟨_, h1⟩, h2⟩ := h
  refine ⟨fun k o ho e he hb => ?_, fun i k oi ok hik hi hk hc => ?_⟩
  · have := h1 (o, k) (by rw [List.mem_zipIdx_iff_getElem?]; simpa using ho) e (by simpa using he)
    simpa [hb] using this
  · have hkl : k < l.length := (List.getElem?_eq_some_iff.1 hk).1
    have := h2 k hkl i hik
    simp only [hi, hk, hc, Bool.not_true, Bool.false_or] at this
    simpa using this
def dstOf (l : List OpA) (k : Nat) : Option Nat := (l[k]?).bind (·.dst)
def wrOf (l : List OpA) (k : Nat) : Bool := match l[k]? with | some o => wrA o | none => false
def EL (e0 : List V) (l : List OpA) (vs : Nat → V) (D : Nat → Bool) : Nat → List V
  | 0 => e0
  | k + 1 => if D k then setO (EL e0 l vs D k) (dstOf l k) (vs k) else EL e0 l vs D k
def ML (l : List OpA) (st : Nat → S) (D : Nat → Bool) : Nat → List O
  | 0 => (st 0).mem
  | k + 1 => if D k && wrOf l k then (st (k + 1)).mem else ML l st D k
theorem setO_len (e : List V) (d : Option Nat) (v : V) : (setO e d v).length = e.length := by cases d <;> simp [setO]
theorem EL_len (e0 : List V) (l : List OpA) (vs : Nat → V) (D : Nat → Bool) (n : Nat) : (EL e0 l vs D n).length = e0.length := by
  induction n with
  | zero => rfl
  | succ n ih => simp only [EL]; split <;> simp [setO_len, ih]
theorem setO_get {e : List V} {d : Option Nat} {v : V} {t : Nat} : (setO e d v)[t]? = if d = some t then (if t < e.length then some v else none) else e[t]? := by
  cases d with
  | none => simp [setO]
  | some d =>
    simp only [setO, Option.some.injEq]
    rw [List.getElem?_set]
    by_cases h : d = t
    · subst h; rfl
    · rw [if_neg h, if_neg h]
theorem EL_congr {e0 : List V} {l : List OpA} {vs : Nat → V} {D D' : Nat → Bool} {t : Nat} : ∀ n, (∀ k, k < n → dstOf l k = some t → D k = D' k) → (EL e0 l vs D n)[t]? = (EL e0 l vs D' n)[t]? := by
  intro n
  induction n with
  | zero => intro _; rfl
  | succ n ih =>
    intro h
    have ih' := ih fun k hk => h k (by omega)
    have e : ∀ D, (EL e0 l vs D (n + 1))[t]? = if D n = true ∧ dstOf l n = some t then (if t < e0.length then some (vs n) else none) else (EL e0 l vs D n)[t]? := by
      intro D
      simp only [EL]
      by_cases hD : D n = true
      · rw [if_pos hD, setO_get, EL_len]
        by_cases hd : dstOf l n = some t
        · have h2 : D n = true ∧ dstOf l n = some t := ⟨hD, hd⟩
          rw [if_pos hd, if_pos h2]
        · rw [if_neg hd, if_neg fun h => hd h.2]
      · rw [if_neg hD, if_neg fun h => hD h.1]
    rw [e, e]
    by_cases hd : dstOf l n = some t
    · rw [h n (by omega) hd, ih']
    · rw [if_neg fun h => hd h.2, if_neg fun h => hd h.2, ih']
theorem ML_congr {l : List OpA} {st : Nat → S} {D D' : Nat → Bool} : ∀ n, (∀ k, k < n → wrOf l k = true → D k = D' k) → ML l st D n = ML l st D' n := by
  intro n
  induction n with
  | zero => intro _; rfl
  | succ n ih =>
    intro h
    simp only [ML]
    rw [ih fun k hk => h k (by omega)]
    by_cases hw : wrOf l n = true
    · rw [h n (by omega) hw]
    · simp only [Bool.not_eq_true] at hw
      simp [hw]
theorem EL_upto {e0 : List V} {l : List OpA} {vs : Nat → V} (m : Nat) : ∀ n, m ≤ n → EL e0 l vs (fun k => decide (k < m)) n = EL e0 l vs (fun _ => true) m := by
  intro n
  induction n with
  | zero => intro h; have : m = 0 := by omega
            subst this; rfl
  | succ n ih =>
    intro h
    by_cases hm : m = n + 1
    · subst hm
      have : ∀ p, p ≤ n + 1 → EL e0 l vs (fun k => decide (k < n + 1)) p = EL e0 l vs (fun _ => true) p := by
        intro p
        induction p with
        | zero => intro _; rfl
        | succ p ihp => intro hp; simp only [EL]; rw [ihp (by omega), if_pos (by simp; omega)]; rfl
      exact this _ (Nat.le_refl _)
    · simp only [EL]
      rw [if_neg (by simp; omega)]
      exact ih (by omega)
theorem ML_upto {l : List OpA} {st : Nat → S} (m : Nat) : ∀ n, m ≤ n → ML l st (fun k => decide (k < m)) n = ML l st (fun _ => true) m := by
  intro n
  induction n with
  | zero => intro h; have : m = 0 := by omega
            subst this; rfl
  | succ n ih =>
    intro h
    by_cases hm : m = n + 1
    · subst hm
      have : ∀ p, p ≤ n + 1 → ML l st (fun k => decide (k < n + 1)) p = ML l st (fun _ => true) p := by
        intro p
        induction p with
        | zero => intro _; rfl
        | succ p ihp => intro hp; simp only [ML]; rw [ihp (by omega)]; simp [show p < n + 1 by omega]
      exact this _ (Nat.le_refl _)
    · simp only [ML]
      have : decide (n < m) = false := by simp; omega
      simp only [this, Bool.false_and, Bool.false_eq_true, if_false]
      exact ih (by omega)
theorem step_env {cfg : Cfg} {call : CallF} {o : OpA} {s s' : S} {v : V} (h : StepA cfg call o s v s') : s'.env = setO s.env o.dst v := by
  rcases h with ⟨_, _, h⟩ | ⟨_, _, _, h⟩ <;> exact h
theorem step_mem {cfg : Cfg} {call : CallF} {o : OpA} {s s' : S} {v : V} (h : StepA cfg call o s v s') (hw : wrA o = false) : s'.mem = s.mem := by
  rcases h with ⟨_, h, _⟩ | ⟨_, _, h, _⟩
  · exact neutral1 hw h
  · exact h
theorem EL_all {cfg : Cfg} {call : CallF} {l : List OpA} {vs : Nat → V} {st : Nat → S} (htr : ∀ (k : Nat) (o : OpA), l[k]? = some o → StepA cfg call o (st k) (vs k) (st (k + 1))) : ∀ m, m ≤ l.length → EL (st 0).env l vs (fun _ => true) m = (st m).env ∧ ML l st (fun _ => true) m = (st m).mem := by
  intro m
  induction m with
  | zero => intro _; exact ⟨rfl, rfl⟩
  | succ m ih =>
    intro hm
    obtain ⟨h1, h2⟩ := ih (by omega)
    have ho : l[m]? = some (l[m]'(by omega)) := List.getElem?_eq_getElem (by omega)
    have hs := htr m _ ho
    refine ⟨?_, ?_⟩
    · simp only [EL, if_true, h1, step_env hs, dstOf, ho, Option.bind_some]
    · simp only [ML, Bool.true_and, h2, wrOf, ho]
      split
      · rfl
      · rename_i hw
        exact (step_mem hs (by simpa using hw)).symm
theorem prep_get {ops : Array Oper} {l : List OpA} (hl : PrepsD ops ops.toList l) {k : Nat} {o : Oper} (ho : ops[k]? = some o) : ∃ q, l[k]? = some q ∧ PrepD ops o q := by
  have hk : k < l.length := by rw [hl.1]; simpa using (Array.getElem?_eq_some_iff.1 ho).1
  exact ⟨l[k], List.getElem?_eq_getElem hk, hl.2 k o _ (by simpa using ho) (List.getElem?_eq_getElem hk)⟩
theorem wr_load {o : OpA} (h : wrA o = true) : bxl o = false := by
  unfold wrA at h
  unfold bxl
  rw [Bool.and_eq_true] at h
  have h2 := h.2
  cases hop : o.op <;> first | (simp [isLoad]; done) | (rw [hop] at h2; simp [writesM, isCV] at h2)
theorem spare_no1 {a b : OpA} (hw : wrA a = true) (hn : bxl b = false) : spare a b = false := by
  unfold spare
  rw [wr_load hw, hn]; simp
theorem spare_no2 {a b : OpA} (hw : wrA b = true) (hn : bxl a = false) : spare a b = false := by
  unfold spare
  rw [wr_load hw, hn]; simp
def Pair (l : List OpA) (k m d T : Nat) : Prop := (∃ ty sq, l[k]? = some ⟨some d, .alloc T, ty, none, true, sq, false⟩) ∧ ∃ x ty sq, l[m]? = some ⟨some d, .box T x, ty, none, true, sq, false⟩
theorem writers_spec {l : List OpA} {d : Nat} : ∀ i, i ∈ writers l d ↔ ∃ q, l[i]? = some q ∧ q.dst = some d := by
  intro i
  unfold writers
  simp only [List.mem_filter, List.mem_range, beq_iff_eq, Option.bind_eq_some_iff]
  constructor
  · rintro ⟨_, q, h1, h2⟩; exact ⟨q, h1, h2⟩
  · rintro ⟨q, h1, h2⟩; exact ⟨(List.getElem?_eq_some_iff.1 h1).1, q, h1, h2⟩
theorem lazy_spec {l : List OpA} (h : lazyOk l = true) {m : Nat} {dst : Option Nat} {T : Nat} {x : Operand} {ty : Nat} {g : Option (Nat × Bool)} {sq rx : Bool} (hm : l[m]? = some ⟨dst, .box T x, ty, g, true, sq, rx⟩) :
    ∃ k d, dst = some d ∧ g = none ∧ rx = false ∧ Pair l k m d T ∧ k < m ∧ ∀ i q, l[i]? = some q → q.dst = some d → i = k ∨ i = m := by
  unfold lazyOk at h
  have h := List.all_eq_true.1 h m (List.mem_range.2 (List.getElem?_eq_some_iff.1 hm).1)
  rw [hm] at h
  cases dst with
  | none => simp at h
  | some d =>
    simp only [Bool.and_eq_true, Option.isNone_iff_eq_none, Bool.not_eq_true'] at h
    obtain ⟨⟨rfl, rfl⟩, h⟩ := h
    have hsort : (writers l d).Pairwise (· < ·) := List.Pairwise.filter _ List.pairwise_lt_range
    split at h
    rotate_left
    · cases h
    rename_i k m' hw
    simp only [Bool.and_eq_true, beq_iff_eq] at h
    obtain ⟨rfl, h⟩ := h
    rw [hw] at hsort
    have hkm : k < m' := by simpa using hsort
    have hmem : ∀ i q, l[i]? = some q → q.dst = some d → i = k ∨ i = m' := fun i q h1 h2 => by
      have := (writers_spec (l := l) (d := d) i).2 ⟨q, h1, h2⟩
      rw [hw] at this
      simpa using this
    obtain ⟨qk, hqk, hdk⟩ := (writers_spec (l := l) (d := d) k).1 (by rw [hw]; simp)
    rw [hqk] at h
    obtain ⟨dst', op', ty', g', bx', sq', rx'⟩ := qk
    simp only at hdk
    subst hdk
    cases op' <;> simp only at h <;> first | (cases h; done) | skip
    simp only [Bool.and_eq_true, beq_iff_eq, Option.isNone_iff_eq_none, Bool.not_eq_true'] at h
    obtain ⟨⟨⟨rfl, rfl⟩, rfl⟩, rfl⟩ := h
    exact ⟨k, d, rfl, rfl, rfl, ⟨⟨_, _, hqk⟩, _, _, _, hm⟩, hkm, hmem⟩
theorem Pair.writers {l : List OpA} (h : lazyOk l = true) {k m d T : Nat} (hp : Pair l k m d T) : k < m ∧ ∀ i q, l[i]? = some q → q.dst = some d → i = k ∨ i = m := by
  obtain ⟨⟨ty, sq, hk⟩, x, ty', sq', hm⟩ := hp
  obtain ⟨k', d', e1, _, _, _, hkm, hu⟩ := lazy_spec h hm
  cases e1
  rcases hu k _ hk rfl with rfl | rfl
  · exact ⟨hkm, hu⟩
  · rw [hk] at hm; cases hm
def Fresh (P : Program) (n0 : Nat) (Z : Zs) (w : World) (j : J) (mem : List O) (a : Act) (d T g : Nat) : Prop :=
  ∃ us, a.tmps[d]? = some (.pointer (some ⟨g, 0, none⟩)) ∧ n0 ≤ g ∧ w.heap[g]? = some (.cells us T (0, 0)) ∧ us.size = P.cellsOf T ∧ ¬ Owned Z j mem g ∧ ∀ o, ¬ Z g o
def PendI (P : Program) (l : List OpA) (n0 : Nat) (Z : Zs) (w : World) (j : J) (mem : List O) (a : Act) (D : Nat → Bool) : Prop :=
  (∀ k m d T, Pair l k m d T → D k = true → D m = false → ∃ g, Fresh P n0 Z w j mem a d T g) ∧
  ∀ k m d T k' m' d' T' g, Pair l k m d T → D k = true → D m = false → Pair l k' m' d' T' → D k' = true → D m' = false → d ≠ d' → Fresh P n0 Z w j mem a d T g → ¬ Fresh P n0 Z w j mem a d' T' g
theorem Fresh.step {n0 : Nat} {a : Act} {d T g : Nat} (h : Fresh P n0 Z w j mem a d T g) (st : Stp Z w j mem Z' w' j' mem') {a' : Act} (ha : a'.tmps[d]? = a.tmps[d]?) : Fresh P n0 Z' w' j' mem' a' d T g := by
  obtain ⟨us, h1, h2, h3, h4, h5, h6⟩ := h
  have hlt := (Array.getElem?_eq_some_iff.1 h3).1
  obtain ⟨k1, k2⟩ := st.keep g hlt h5
  exact ⟨us, ha.trans h1, h2, k1.trans h3, h4, fun ho => h5 (st.owned g hlt ho), fun o ho => h6 o ((k2 o).1 ho)⟩
theorem Fresh.same {n0 : Nat} {a a' : Act} {d T g g' : Nat} {w2 : World} {Z2 : Zs} {j2 : J} {mem2 : List O} (h : Fresh P n0 Z w j mem a d T g) (ha : a'.tmps[d]? = a.tmps[d]?) {T' : Nat} (h' : Fresh P n0 Z2 w2 j2 mem2 a' d T' g') : g' = g := by
  obtain ⟨us, h1, _⟩ := h
  obtain ⟨us', h1', _⟩ := h'
  rw [ha, h1] at h1'
  cases h1'
  rfl
theorem put_other {a : Act} {dst : Option Nat} {d : Nat} (h : dst ≠ some d) (u : Value) : (a.put dst u).tmps[d]? = a.tmps[d]? := by
  cases dst with
  | none => rfl
  | some e =>
    show (a.tmps.setIfInBounds e u)[d]? = _
    exact Array.getElem?_setIfInBounds_ne fun h' => h (by rw [h'])
theorem PendI.step {l : List OpA} {n0 : Nat} {a a' : Act} {D D' : Nat → Bool} (h : PendI P l n0 Z w j mem a D) (st : Stp Z w j mem Z' w' j' mem')
    (hD : ∀ k m d T, Pair l k m d T → D' k = true → D' m = false → D k = true ∧ D m = false ∧ a'.tmps[d]? = a.tmps[d]?) : PendI P l n0 Z' w' j' mem' a' D' := by
  refine ⟨fun k m d T hp h1 h2 => ?_, fun k m d T k' m' d' T' g hp h1 h2 hp' h1' h2' hne hf hf' => ?_⟩
  · obtain ⟨e1, e2, e3⟩ := hD k m d T hp h1 h2
    obtain ⟨g, hg⟩ := h.1 k m d T hp e1 e2
    exact ⟨g, hg.step st e3⟩
  · obtain ⟨e1, e2, e3⟩ := hD k m d T hp h1 h2
    obtain ⟨f1, f2, f3⟩ := hD k' m' d' T' hp' h1' h2'
    obtain ⟨g1, hg1⟩ := h.1 k m d T hp e1 e2
    obtain ⟨g2, hg2⟩ := h.1 k' m' d' T' hp' f1 f2
    have q1 := Fresh.same hg1 e3 hf
    have q2 := Fresh.same hg2 f3 hf'
    subst q1
    subst q2
    exact h.2 k m d T k' m' d' T' _ hp e1 e2 hp' f1 f2 hne hg1 hg2
theorem lazyFill (s : SR P Z w j mem) {g T : Nat} {us : Array Value} {v : V} {u : Value} (hg : w.heap[g]? = some (.cells us T (0, 0))) (hus : us.size = P.cellsOf T) (hno : ¬ Owned Z j mem g) (hnz : ∀ o, ¬ Z g o)
    (hl : v.cells.length = P.cellsOf T) (ho : v.cells.all V.one = true) (hpos : 0 < P.cellsOf T) (hv : VR Z w j v u) :
    ∃ w2 j2, (Instr.storeAt T (.pointer (some ⟨g, 0, none⟩)) u).run P w = .ok () w2 ∧ SR P Z w2 j2 (newBox P mem T v).2 ∧ VR Z w2 j2 (newBox P mem T v).1 (.pointer (some ⟨g, 0, none⟩)) ∧ JExt j j2 ∧ ZExt Z w Z w2 ∧
      (∀ g', g' ≠ g → w2.heap[g']? = w.heap[g']?) ∧ w2.heap.size = w.heap.size ∧ w2.os = w.os ∧ w2.tape = w.tape ∧ w2.output = w.output ∧ (∀ g', g' < w.heap.size → Owned Z j2 (newBox P mem T v).2 g' → Owned Z j mem g' ∨ g' = g) := by
  have fin : ∀ (v' : V) (m' : List O) (j' : J), boxVal P mem T v = (v', m') → SR P Z w j' m' → Stp Z w j mem Z w j' m' → JExt j j' → v'.cells.length = P.cellsOf T → v'.cells.all V.one = true → VR Z w j' v' u →
      ∃ w2 j2, (Instr.storeAt T (.pointer (some ⟨g, 0, none⟩)) u).run P w = .ok () w2 ∧ SR P Z w2 j2 (newBox P mem T v).2 ∧ VR Z w2 j2 (newBox P mem T v).1 (.pointer (some ⟨g, 0, none⟩)) ∧ JExt j j2 ∧ ZExt Z w Z w2 ∧
      (∀ g', g' ≠ g → w2.heap[g']? = w.heap[g']?) ∧ w2.heap.size = w.heap.size ∧ w2.os = w.os ∧ w2.tape = w.tape ∧ w2.output = w.output ∧ (∀ g', g' < w.heap.size → Owned Z j2 (newBox P mem T v).2 g' → Owned Z j mem g' ∨ g' = g) := by
    intro v' m' j' e s' stp je hl' ho' hv'
    obtain ⟨hcs, hcl⟩ := hv'.cellsOf (one_of_all ho')
    have hu1 : ∀ c ∈ u.cells.toList, c.oneCell' = true := by
      intro c hcm
      obtain ⟨i, hi, rfl⟩ := List.getElem_of_mem hcm
      have hi' : i < v'.cells.length := by simp at hi; omega
      obtain ⟨c', hc', hvr⟩ := hcl i _ (List.getElem?_eq_getElem hi')
      have : u.cells.toList[i] = c' := by
        have : u.cells[i]? = some u.cells.toList[i] := by simp at hi ⊢
        rw [this] at hc'
        exact Option.some.inj hc'
      rw [this]
      exact hvr.oneCell (one_of_all ho' _ (List.mem_of_getElem? (List.getElem?_eq_getElem hi')))
    have hul : u.cells.toList.length = P.cellsOf T := by simp; omega
    obtain ⟨q1, q2, q3⟩ := store_cells (w := w) (p := 0) (vals := u.cells.toList) hg (by omega)
    obtain ⟨w2, hw2⟩ : ∃ w2, w2 = w.setRow g (us.toList.take 0 ++ u.cells.toList ++ us.toList.drop (0 + u.cells.toList.length)).toArray := ⟨_, rfl⟩
    have hot : ∀ k, k ≠ g → w2.heap[k]? = w.heap[k]? := fun k hk => by rw [hw2]; exact setRow_other w g k _ hk
    have hrun := run_storeAt (P := P) (p := 0) (t := T) (u := u) hg (by simpa using hul) hpos hu1 (by omega)
    rw [← hw2] at q1 q3 hrun
    have hz : ZExt Z w Z w2 := .of fun g' o hz => ⟨hz, same_block (hot g' fun e => hnz o (e ▸ hz)) o⟩
    have hlt : g < w.heap.size := (Array.getElem?_eq_some_iff.1 hg).1
    have hno' : ¬ Owned Z j' m' g := fun ho => hno (stp.owned g hlt ho)
    have s2 : SR P Z w2 j' m' := s'.world hz (fun g' hg' => ⟨hot g' fun e => hno' (e ▸ hg'), fun _ => Iff.rfl⟩) (fun g' o ho => by rw [hw2]; simpa using s'.zin g' o ho)
    have s3 := s2.add (h := ⟨.pointer (some ⟨g, 0, none⟩), P.cellsOf T⟩) (o := .box T v' false) (fun g' hg' => by simp [Han.blk] at hg'; subst hg'; exact hno')
      ⟨g, _, upd_same _ _ _, q1, hl', by rw [q2]; exact hus, fun i y hy => by
        obtain ⟨c, hc, hvr⟩ := hcl i y hy
        have hi : i < v'.cells.length := (List.getElem?_eq_some_iff.1 hy).1
        refine ⟨one_of_all ho' y (List.mem_of_getElem? hy), c, ?_, hvr.mono hz (s'.ext _)⟩
        rw [q3, if_pos (by omega)]
        simpa using hc, fun o ho => (hnz o ho).elim, fun h => by cases h⟩
    refine ⟨w2, upd j' m'.length ⟨.pointer (some ⟨g, 0, none⟩), P.cellsOf T⟩, hrun, ?_, ?_, je.trans (s'.ext _), hz, hot, by rw [hw2]; simp, by rw [hw2]; rfl, by rw [hw2]; rfl, by rw [hw2]; rfl, fun g' hg' ho => ?_⟩
    · unfold newBox; rw [e]; exact s3
    · unfold newBox; rw [e]
      have := VR.ptr (Z := Z) (w := w2) (j := upd j' m'.length ⟨.pointer (some ⟨g, 0, none⟩), P.cellsOf T⟩) (id := m'.length) (k := 0) (off := 0) (g := g) (b := 0) (upd_same _ _ _) rfl
      simpa using this
    · unfold newBox at ho; rw [e] at ho
      rcases Owned.add ho with ho | ho
      · exact .inl (stp.owned g' hg' ho)
      · simp [Han.blk] at ho; exact .inr ho.symm
  have single : (∀ cs, v ≠ .agg cs) → ∃ w2 j2, (Instr.storeAt T (.pointer (some ⟨g, 0, none⟩)) u).run P w = .ok () w2 ∧ SR P Z w2 j2 (newBox P mem T v).2 ∧ VR Z w2 j2 (newBox P mem T v).1 (.pointer (some ⟨g, 0, none⟩)) ∧ JExt j j2 ∧ ZExt Z w Z w2 ∧
      (∀ g', g' ≠ g → w2.heap[g']? = w.heap[g']?) ∧ w2.heap.size = w.heap.size ∧ w2.os = w.os ∧ w2.tape = w.tape ∧ w2.output = w.output ∧ (∀ g', g' < w.heap.size → Owned Z j2 (newBox P mem T v).2 g' → Owned Z j mem g' ∨ g' = g) := by
    intro hna
    obtain ⟨j', a1, a2, a3, a4, a5, a6⟩ := boxed_sound (P := P) (cellTys P T) [v] [u] mem j s rfl (fun i x z hx hz => by
      cases i with
      | zero => simp at hx hz; subst hx hz; exact hv
      | succ i => simp at hx)
    have hc1 : v.cells = [v] := by cases v <;> first | rfl | exact (hna _ rfl).elim
    have h1 : v.one = true := by rw [hc1] at ho; simpa using ho
    match hb : boxed P (cellTys P T) [v] mem, a1, a2, a4, a5, a6 with
    | ([x], m), a1, a2, a4, a5, a6 =>
      have hx1 : x.one = true := a6 (fun y hy => by simp at hy; subst hy; exact h1) x (by simp)
      have hxc := cells_one hx1
      refine fin x m j' ?_ a1 a2 a3 (by rw [hxc]; rw [hc1] at hl; exact hl) (by rw [hxc]; simp [hx1]) (a5 0 x u rfl rfl)
      unfold boxVal
      cases v <;> first | exact (hna _ rfl).elim | (simp only [hb])
    | ([], m), a1, a2, a4, a5, a6 => simp at a4
    | (_ :: _ :: _, m), a1, a2, a4, a5, a6 => simp at a4
  cases v with
  | agg cs =>
    cases hv with
    | agg hl2 hh =>
      rename_i us
      obtain ⟨j', a1, a2, a3, a4, a5, a6⟩ := boxed_sound (P := P) (cellTys P T) cs us mem j s hl2 hh
      refine fin _ _ j' rfl a1 a2 a3 ?_ ?_ (.agg (by rw [a4]; exact hl2) a5)
      · simp only [V.cells] at hl ⊢
        rw [a4]; exact hl
      · simp only [V.cells, List.all_eq_true] at ho ⊢
        exact a6 ho
  | _ => exact single (by intro cs h; cases h)
theorem ssa_spec {cfg : Cfg} : ∀ {l : List OpA}, ssaAll cfg l = true → ∀ i o, l[i]? = some o → (bxl o || frx cfg o) = true → ∀ t ∈ looksA o, ∀ (k : Nat) (q : OpA), i ≤ k → l[k]? = some q → q.dst ≠ some t := by
  intro l
  induction l with
  | nil => intro _ i o h; simp at h
  | cons p l ih =>
    intro h i o hi ho t ht k q hik hk
    simp only [ssaAll, Bool.and_eq_true, Bool.or_eq_true, Bool.not_eq_true'] at h
    cases i with
    | zero =>
      simp at hi
      subst hi
      have h1 := h.1.resolve_left (by rw [ho]; simp)
      have h2 := List.all_eq_true.1 h1 t ht
      simp only [Bool.and_eq_true, bne_iff_ne, List.all_eq_true] at h2
      cases k with
      | zero => simp at hk; subst hk; exact h2.1
      | succ k => exact h2.2 q (List.mem_of_getElem? (by simpa using hk))
    | succ i =>
      cases k with
      | zero => omega
      | succ k => exact ih h.2 i o (by simpa using hi) ho t ht k q (by omega) (by simpa using hk)
theorem env_late {cfg : Cfg} {call : CallF} {l : List OpA} {vs : Nat → V} {st : Nat → S} (htr : ∀ (k : Nat) (o : OpA), l[k]? = some o → StepA cfg call o (st k) (vs k) (st (k + 1))) {t : Nat} : ∀ d i, i + d = l.length → (∀ k q, i ≤ k → l[k]? = some q → q.dst ≠ some t) → (st l.length).env[t]? = (st i).env[t]? := by
  intro d
  induction d with
  | zero => intro i h _; rw [Nat.add_zero] at h; rw [h]
  | succ d ih =>
    intro i h hno
    rw [ih (i + 1) (by omega) fun k q hk => hno k q (by omega)]
    have ho : l[i]? = some (l[i]'(by omega)) := List.getElem?_eq_getElem (by omega)
    rw [step_env (htr i _ ho), setO_get, if_neg (hno i _ (Nat.le_refl _) ho)]
theorem ids_congr {e1 e2 : List V} {x : Operand} (h : ∀ t, x = .tmp t → e1[t]? = e2[t]?) : idsAt e1 x = idsAt e2 x := by
  unfold idsAt
  rw [evalO_congr h]
theorem frame_apart {cfg : Cfg} {call : CallF} {l : List OpA} {vs : Nat → V} {st : Nat → S} {N : Nat} (htr : ∀ (k : Nat) (o : OpA), l[k]? = some o → StepA cfg call o (st k) (vs k) (st (k + 1))) (hN : l.length = N) (hchk : frameChk cfg l (st N).env = true)
    {i n : Nat} {q ok : OpA} (hq : l[i]? = some q) (hb : bxl q = true) (hok : l[n]? = some ok) (hfr : frx cfg ok = true) : ∀ id, id ∈ readsAt (st i).env q → id ∉ framesAt (st n).env ok := by
  subst hN
  unfold frameChk at hchk
  have hany : l.any (frx cfg) = true := List.any_eq_true.2 ⟨ok, List.mem_of_getElem? hok, hfr⟩
  rw [hany] at hchk
  simp only [Bool.not_true, Bool.false_or, Bool.and_eq_true] at hchk
  obtain ⟨_, hssa, hall⟩ := hchk
  have late : ∀ i o, l[i]? = some o → (bxl o || frx cfg o) = true → ∀ t ∈ looksA o, (st l.length).env[t]? = (st i).env[t]? := fun i o hi ho t ht =>
    env_late htr (l.length - i) i (by have := (List.getElem?_eq_some_iff.1 hi).1; omega) (ssa_spec hssa i o hi ho t ht)
  have looks : ∀ (o : OpA) (x : Operand), x ∈ o.op.operands → ∀ t, x = .tmp t → t ∈ looksA o := fun o x hx t ht => by
    simp only [looksA, List.mem_append, List.mem_filterMap]
    exact .inl ⟨x, by simpa using hx, by rw [ht]⟩
  have e1 : readsAt (st l.length).env q = readsAt (st i).env q := by
    unfold readsAt
    cases hop : q.op <;> simp only
    exact ids_congr fun t ht => late i q hq (by rw [hb]; rfl) t (looks q _ (by rw [hop]; simp [Op.operands]) t ht)
  have e2 : framesAt (st l.length).env ok = framesAt (st n).env ok := by
    unfold framesAt
    cases hop : ok.op <;> simp only
    case store t ad x => exact ids_congr fun t ht => late n ok hok (by rw [hfr]; simp) t (looks ok _ (by rw [hop]; simp [Op.operands]) t ht)
    rename_i c
    have : ∀ (as : List Operand), (∀ x ∈ as, x ∈ ok.op.operands) → as.flatMap (idsAt (st l.length).env) = as.flatMap (idsAt (st n).env) := by
      intro as
      induction as with
      | nil => intro _; rfl
      | cons x as ih =>
        intro h
        rw [List.flatMap_cons, List.flatMap_cons, ih fun y hy => h y (by simp [hy]), ids_congr fun t ht => late n ok hok (by rw [hfr]; simp) t (looks ok x (h x (by simp)) t ht)]
    refine this _ fun x hx => ?_
    rw [hop]
    simp only [Op.operands, Call.operands]
    cases c.callee <;> simp <;> first | exact .inr (by simpa using hx) | simpa using hx
  intro id hid
  rw [← e1] at hid
  rw [← e2]
  have a1 := List.all_eq_true.1 hall ok (List.mem_of_getElem? hok)
  rw [hfr, Bool.not_true, Bool.false_or] at a1
  have a2 := List.all_eq_true.1 a1 q (List.mem_of_getElem? hq)
  rw [hb, Bool.not_true, Bool.false_or] at a2
  have a3 := List.all_eq_true.1 a2 id hid
  simpa using a3
theorem any_sound {r : Option Nat} {n : Nat} {cfg : Cfg} {call : CallF} (hp : PureOK cfg.P call.pc) (hi : ImpOK cfg.P call.ic) {ops : Array Oper} {Q : Exit → Act → World → Prop} {l : List OpA} {vs : Nat → V} {st : Nat → S} {a0 : Act}
    (hl : PrepsD ops ops.toList l) (hd : drawOk ops l = true) (hchk : frameChk cfg l (st ops.size).env = true) (htr : ∀ (k : Nat) (o : OpA), l[k]? = some o → StepA cfg call o (st k) (vs k) (st (k + 1)))
    (hQ : ∀ a' w', After cfg.P Z w j (st 0).mem (st ops.size) a' w' → Kept l a0 a' → Q .normal a' w') :
    ∀ (fuel : Nat) (listed : Array Bool) (a : Act) (w1 : World), listed.size = ops.size → listed.toList.count false ≤ fuel → Closed ops (fun k => listed.getD k false) →
      (∃ Z1 j1, St Z1 w1 j1 (EL (st 0).env l vs (fun k => listed.getD k false) ops.size) a ∧ SR cfg.P Z1 w1 j1 (ML l st (fun k => listed.getD k false) ops.size) ∧ Stp Z w j (st 0).mem Z1 w1 j1 (ML l st (fun k => listed.getD k false) ops.size) ∧ JExt j j1 ∧ PendI cfg.P l w.heap.size Z1 w1 j1 (ML l st (fun k => listed.getD k false) ops.size) a fun k => listed.getD k false) → Kept l a0 a →
      wpAnyIn (FR r) n cfg.P .any ops Q fuel listed a w1 := by
  have hll : l.length = ops.size := by have := hl.1; simpa using this
  obtain ⟨hbind, hclash⟩ := draw_spec hd
  have done : ∀ (listed : Array Bool) (a : Act) (w1 : World), listed.size = ops.size → (∀ k, k < ops.size → listed.getD k false = true) →
      (∃ Z1 j1, St Z1 w1 j1 (EL (st 0).env l vs (fun k => listed.getD k false) ops.size) a ∧ SR cfg.P Z1 w1 j1 (ML l st (fun k => listed.getD k false) ops.size) ∧ Stp Z w j (st 0).mem Z1 w1 j1 (ML l st (fun k => listed.getD k false) ops.size) ∧ JExt j j1 ∧ PendI cfg.P l w.heap.size Z1 w1 j1 (ML l st (fun k => listed.getD k false) ops.size) a fun k => listed.getD k false) → Kept l a0 a → Q .normal a w1 := by
    intro listed a w1 hsz hall ⟨Z1, j1, h1, h2, h3, h4, _⟩ hkp
    obtain ⟨e1, e2⟩ := EL_all htr ops.size (by omega)
    have eE : EL (st 0).env l vs (fun k => listed.getD k false) ops.size = (st ops.size).env := by
      rw [← e1]
      apply List.ext_getElem?
      intro t
      exact EL_congr _ fun k hk _ => hall k hk
    have eM : ML l st (fun k => listed.getD k false) ops.size = (st ops.size).mem := by
      rw [← e2]
      exact ML_congr _ fun k hk _ => hall k hk
    rw [eE] at h1
    rw [eM] at h2 h3
    exact hQ a w1 ⟨Z1, j1, h1, h2, h3, h4⟩ hkp
  have notdone : ∀ (listed : Array Bool), listed.size = ops.size → Region.ready .any ops listed = [] → ∀ k, k < ops.size → listed.getD k false = true := by
    intro listed hsz hr k
    induction k using Nat.strongRecOn with
    | _ k ih =>
      intro hk
      by_cases h : listed.getD k false = true
      · exact h
      · exfalso
        have hok : ops[k]? = some ops[k] := Array.getElem?_eq_getElem hk
        have : k ∈ Region.ready .any ops listed := by
          rw [mem_ready]
          refine ⟨?_, ops[k], hok, fun e he hb => ?_⟩
          · have hlt : k < listed.size := by omega
            simp [Array.getD_eq_getD_getElem?, Array.getElem?_eq_getElem hlt] at h ⊢
            exact h
          · have h2 := hbind k _ hok e he hb
            exact ih e.on h2 (by omega)
        rw [hr] at this
        simp at this
  intro fuel
  induction fuel with
  | zero =>
    intro listed a w1 hsz hcnt hcl hinv hkp
    have hall : ∀ k, k < ops.size → listed.getD k false = true := by
      intro k hk
      have hlt : k < listed.size := by omega
      have h0 : listed.toList.count false = 0 := by omega
      have := List.count_eq_zero.1 h0
      have h2 : listed[k] ∈ listed.toList := by simp
      cases hb : listed[k] with
      | true => simp [Array.getD_eq_getD_getElem?, Array.getElem?_eq_getElem hlt, hb]
      | false => rw [hb] at h2; exact (this h2).elim
    refine ⟨?_, done listed a w1 hsz hall hinv hkp⟩
    apply List.eq_nil_iff_forall_not_mem.2
    intro i hi'
    rw [mem_ready] at hi'
    obtain ⟨h1, o, ho, _⟩ := hi'
    have hlt : i < ops.size := (Array.getElem?_eq_some_iff.1 ho).1
    have h2 := hall i hlt
    have hlt' : i < listed.size := by omega
    simp [Array.getD_eq_getD_getElem?, Array.getElem?_eq_getElem hlt'] at h1 h2
    rw [h1] at h2; cases h2
  | succ fuel ih =>
    intro listed a w1 hsz hcnt hcl hinv hkp
    refine ⟨fun hr => done listed a w1 hsz (notdone listed hsz hr) hinv hkp, fun i hir => ?_⟩
    have hir' := hir
    rw [mem_ready] at hir'
    obtain ⟨hnl, o, ho, hall⟩ := hir'
    have hin : i < ops.size := (Array.getElem?_eq_some_iff.1 ho).1
    have hlt : i < listed.size := by omega
    have hnl' : listed[i] = false := by simpa [Array.getD_eq_getD_getElem?, Array.getElem?_eq_getElem hlt] using hnl
    obtain ⟨q, hq, hpq⟩ := prep_get hl ho
    have hstep := htr i _ hq
    have hanc : ∀ k, k ∈ (ancs ops.toList []).getD i [] → listed.getD k false = true := closed_anc hcl i o ho hall
    have before : ∀ k ok, k < i → l[k]? = some ok → clash ok q = true → listed.getD k false = true := fun k ok hki hk hc => hanc k (hclash k i ok _ hki hk hq hc)
    have oper : ∀ k q, l[k]? = some q → ∃ ok, ops[k]? = some ok := fun k q hk => by
      have : k < ops.size := by rw [← hll]; exact (List.getElem?_eq_some_iff.1 hk).1
      exact ⟨ops[k], Array.getElem?_eq_getElem this⟩
    have behind : ∀ k ok, i < k → l[k]? = some ok → clash q ok = true → listed.getD k false = false := by
      intro k ok hik hk hc
      cases hb : listed.getD k false with
      | false => rfl
      | true =>
        obtain ⟨ok', hok'⟩ := oper k ok hk
        have := closed_anc hcl k ok' hok' (fun e he hbb => hcl k ok' hok' hb e he hbb) i (hclash i k _ ok hik hq hk hc)
        simp [Array.getD_eq_getD_getElem?, Array.getElem?_eq_getElem hlt, hnl'] at this
    have dst_of : ∀ k t, dstOf l k = some t → ∃ ok, l[k]? = some ok ∧ ok.dst = some t := by
      intro k t hk
      unfold dstOf at hk
      cases hlk : l[k]? with
      | none => simp [hlk] at hk
      | some qk =>
        simp [hlk] at hk
        exact ⟨qk, rfl, hk⟩
    have wr_of : ∀ k, wrOf l k = true → ∃ ok, l[k]? = some ok ∧ wrA ok = true := by
      intro k hk
      unfold wrOf at hk
      cases hlk : l[k]? with
      | none => simp [hlk] at hk
      | some qk =>
        simp only [hlk] at hk
        exact ⟨qk, rfl, hk⟩
    have sp1 : ∀ ok : OpA, wrA ok = true → bxl q = false → spare ok q = false := fun ok h hn => spare_no1 h hn
    have sp2 : ∀ ok : OpA, wrA ok = true → bxl q = false → spare q ok = false := fun ok h hn => spare_no2 h hn
    have ldw : wrA q = true → bxl q = false := fun h => wr_load h
    have looks : ∀ t, t ∈ looksA q → (EL (st 0).env l vs (fun k => listed.getD k false) ops.size)[t]? = (st i).env[t]? := by
      intro t ht
      have ht' := ht
      rw [← (EL_all htr i (by omega)).1, ← EL_upto i ops.size (by omega)]
      refine EL_congr _ fun k hk hdk => ?_
      obtain ⟨ok, hok, hdo⟩ := dst_of k t hdk
      rcases Nat.lt_trichotomy k i with h | h | h
      · rw [before k ok h hok (by simp only [clash, dclash, hdo]; simp [ht'])]
        simp [h]
      · subst h
        simp [Array.getD_eq_getD_getElem?, Array.getElem?_eq_getElem hlt, hnl']
      · rw [behind k ok h hok (by simp only [clash, dclash, hdo]; simp [ht'])]
        simp; omega
    have self : ∀ k, k = i → listed.getD k false = decide (k < i) := by
      intro k h
      subst h
      simp [Array.getD_eq_getD_getElem?, Array.getElem?_eq_getElem hlt, hnl']
    have memEq : (rdA q = true ∨ wrA q = true) → bxl q = false → ML l st (fun k => listed.getD k false) ops.size = (st i).mem := by
      intro hrw hnl0
      rw [← (EL_all htr i (by omega)).2, ← ML_upto i ops.size (by omega)]
      refine ML_congr _ fun k hk hwk => ?_
      obtain ⟨ok, hok, hwo⟩ := wr_of k hwk
      rcases Nat.lt_trichotomy k i with h | h | h
      · rw [before k ok h hok (by simp only [clash, mclash, hwo, sp1 ok hwo hnl0]; rcases hrw with h | h <;> simp [h])]
        simp [h]
      · exact self k h
      · rw [behind k ok h hok (by simp only [clash, mclash, hwo, sp2 ok hwo hnl0]; rcases hrw with h | h <;> simp [h])]
        simp; omega
    have hnew : ∀ k, (listed.setIfInBounds i true).getD k false = (listed.getD k false || decide (k = i)) := by
      intro k
      simp only [Array.getD_eq_getD_getElem?, Array.getElem?_setIfInBounds]
      by_cases h : i = k
      · subst h; simp [hlt]
      · have : ¬ k = i := fun e => h e.symm
        simp [h, this]
    have envEq : EL (st 0).env l vs (fun k => (listed.setIfInBounds i true).getD k false) ops.size = setO (EL (st 0).env l vs (fun k => listed.getD k false) ops.size) q.dst (vs i) := by
      apply List.ext_getElem?
      intro t
      by_cases hdt : q.dst = some t
      · have e1 : (EL (st 0).env l vs (fun k => (listed.setIfInBounds i true).getD k false) ops.size)[t]? = (EL (st 0).env l vs (fun k => decide (k < i + 1)) ops.size)[t]? := by
          refine EL_congr _ fun k hk hdk => ?_
          obtain ⟨ok, hok, hdo⟩ := dst_of k t hdk
          rw [hnew]
          rcases Nat.lt_trichotomy k i with h | h | h
          · rw [before k ok h hok (by simp only [clash, dclash, hdo]; simp [hdt])]
            simp; omega
          · subst h; simp
          · rw [behind k ok h hok (by simp only [clash, dclash, hdt]; simp [hdo])]
            have : ¬ k = i := by omega
            simp [this]; omega
        rw [e1, EL_upto (i + 1) ops.size (by omega), (EL_all htr (i + 1) (by omega)).1, step_env hstep]
        simp only [hdt, setO_get, if_true, EL_len]
        rw [← (EL_all htr i (by omega)).1, EL_len]
      · rw [setO_get, if_neg hdt]
        refine EL_congr _ fun k hk hdk => ?_
        rw [hnew]
        have : ¬ k = i := by
          intro e
          subst e
          simp [dstOf, hq] at hdk
          exact hdt hdk
        simp [this]
    have cnt : (listed.setIfInBounds i true).toList.count false ≤ fuel := by
      have e : (listed.setIfInBounds i true).toList = listed.toList.set i true := by simp
      rw [e, List.count_set]
      · have h1 : listed.toList[i]'(by simpa using hlt) = false := by simpa using hnl'
        rw [h1]
        have h2 : ((true : Bool) == false) = false := rfl
        rw [h2, if_pos (beq_self_eq_true false), if_neg (by simp)]
        have : 0 < listed.toList.count false := List.count_pos_iff.2 (by rw [← hnl']; simp)
        omega
      · simpa using hlt
    have cl : Closed ops (fun k => (listed.setIfInBounds i true).getD k false) := by
      intro k ok hok hD e he hb
      simp only [hnew] at hD ⊢
      by_cases h : k = i
      · subst h
        rw [ho] at hok; cases hok
        simp [hall e he hb]
      · have h2 : decide (k = i) = false := by simp [h]
        rw [h2, Bool.or_false] at hD
        have h3 : listed.getD e.on false = true := hcl k ok hok hD e he hb
        rw [h3, Bool.true_or]
    have memNew : wrA q = true → ML l st (fun k => (listed.setIfInBounds i true).getD k false) ops.size = (st (i + 1)).mem := by
      intro hw
      rw [← (EL_all htr (i + 1) (by omega)).2, ← ML_upto (i + 1) ops.size (by omega)]
      refine ML_congr _ fun k hk hwk => ?_
      obtain ⟨ok, hok, hwo⟩ := wr_of k hwk
      rw [hnew]
      rcases Nat.lt_trichotomy k i with h | h | h
      · rw [before k ok h hok (by simp [clash, mclash, hwo, hw, sp1 ok hwo (ldw hw)])]
        simp; omega
      · subst h; simp
      · rw [behind k ok h hok (by simp [clash, mclash, hwo, hw, sp2 ok hwo (ldw hw)])]
        have : ¬ k = i := by omega
        simp [this]; omega
    have memOld : wrA q = false → ML l st (fun k => (listed.setIfInBounds i true).getD k false) ops.size = ML l st (fun k => listed.getD k false) ops.size := by
      intro hw
      refine ML_congr _ fun k hk hwk => ?_
      rw [hnew]
      have : ¬ k = i := by
        intro e
        subst e
        simp [wrOf, hq, hw] at hwk
      simp [this]
    obtain ⟨Z1, j1, h1, h2, h3, h4, hpend⟩ := hinv
    have hsz' : (listed.setIfInBounds i true).size = ops.size := by simpa using hsz
    unfold wpOpIn
    simp only [ho]
    have hwe : wantedA (EL (st 0).env l vs (fun k => listed.getD k false) ops.size) q.guard = wantedA (st i).env q.guard := by
      cases hqg : q.guard with
      | none => rfl
      | some tw =>
        simp only [wantedA]
        rw [looks tw.1 (by simp [looksA, hqg])]
    have loads : bxl q = true → opX cfg call (drO true q) q (st i).env (st i).mem = some (vs i, (st (i + 1)).mem) →
        opX cfg call (drO true q) q (st i).env (ML l st (fun k => listed.getD k false) ops.size) = some (vs i, ML l st (fun k => (listed.setIfInBounds i true).getD k false) ops.size) := by
      intro hbx hop
      have hbxl := hbx
      simp only [bxl, Bool.and_eq_true] at hbx
      obtain ⟨⟨hrx, hbx1⟩, hld⟩ := hbx
      have hrx : q.rx = false := by simpa using hrx
      rw [opX_no hrx] at hop ⊢
      have hwr : wrA q = false := by
        unfold wrA
        cases hop' : q.op <;> rw [hop'] at hld <;> first | (cases hld; done) | simp [writesM, isCV]
      have hrd : rdA q = true := by
        unfold rdA
        rw [hrx]
        cases hop' : q.op <;> rw [hop'] at hld <;> first | (cases hld; done) | simp [readsM, bxi]
      rw [memOld hwr]
      have D1 : ∀ k ok, k < i → l[k]? = some ok → wrA ok = true → listed.getD k false = false → pushA ok = true := by
        intro k ok hki hk hwo hnd
        cases hpu : pushA ok with
        | true => rfl
        | false =>
          have := before k ok hki hk (by simp [clash, mclash, spare, hwo, hrd, hpu, wr_load hwo])
          rw [this] at hnd; cases hnd
      have D2 : ∀ k ok, i < k → l[k]? = some ok → wrA ok = true → listed.getD k false = true → pushA ok = true := by
        intro k ok hki hk hwo hnd
        cases hpu : pushA ok with
        | true => rfl
        | false =>
          have := behind k ok hki hk (by simp [clash, mclash, spare, hwo, hrd, hpu, wr_load hwo])
          rw [this] at hnd; cases hnd
      have first : ∀ k k' ok ok', k < k' → l[k]? = some ok → l[k']? = some ok' → wrA ok = true → wrA ok' = true → listed.getD k' false = true → listed.getD k false = true := by
        intro k k' ok ok' hkk hk hk' hwo hwo' hd'
        have hin' := hclash k k' ok ok' hkk hk hk' (by simp [clash, mclash, spare, hwo, hwo', wr_load hwo, wr_load hwo'])
        obtain ⟨o', ho'⟩ := oper k' ok' hk'
        exact closed_anc hcl k' o' ho' (fun e he hbb => hcl k' o' ho' hd' e he hbb) k hin'
      obtain ⟨a, hale, haML, halo, hahi⟩ : ∃ a, a ≤ ops.size ∧ ML l st (fun k => listed.getD k false) ops.size = (st a).mem ∧ (∀ k ok, k < a → l[k]? = some ok → wrA ok = true → listed.getD k false = true) ∧
          (∀ k ok, a ≤ k → l[k]? = some ok → wrA ok = true → listed.getD k false = false) := by
        have gen : ∀ n, n ≤ ops.size → ∃ a, a ≤ n ∧ ML l st (fun k => listed.getD k false) n = (st a).mem ∧ (∀ k ok, k < a → l[k]? = some ok → wrA ok = true → listed.getD k false = true) ∧
            (∀ k ok, a ≤ k → k < n → l[k]? = some ok → wrA ok = true → listed.getD k false = false) := by
          intro n
          induction n with
          | zero => intro _; exact ⟨0, Nat.le_refl _, rfl, fun k ok hk => by omega, fun k ok h1 h2 => by omega⟩
          | succ n ihn =>
            intro hn
            obtain ⟨a, b1, b2, b3, b4⟩ := ihn (by omega)
            by_cases hdn : listed.getD n false = true ∧ wrOf l n = true
            · obtain ⟨okn, hokn, hwn⟩ := wr_of n hdn.2
              refine ⟨n + 1, Nat.le_refl _, by simp only [ML, hdn.1, hdn.2, Bool.and_self, if_true], fun k ok hk hok hwo => ?_, fun k ok h1 h2 => by omega⟩
              rcases Nat.lt_or_ge k n with q | q
              · exact first k n ok okn q hok hokn hwo hwn hdn.1
              · have : k = n := by omega
                subst this; exact hdn.1
            · refine ⟨a, by omega, ?_, b3, fun k ok h1 h2 hok hwo => ?_⟩
              · simp only [ML]
                rw [if_neg (by simpa [Bool.and_eq_true] using hdn)]
                exact b2
              · rcases Nat.lt_or_ge k n with q | q
                · exact b4 k ok h1 q hok hwo
                · have : k = n := by omega
                  subst this
                  cases hdk : listed.getD k false with
                  | false => rfl
                  | true =>
                    exact (hdn ⟨hdk, by simp only [wrOf, hok, hwo]⟩).elim
        obtain ⟨a, b1, b2, b3, b4⟩ := gen ops.size (Nat.le_refl _)
        exact ⟨a, b1, b2, b3, fun k ok h1 hok hwo => b4 k ok h1 (by rw [← hll]; exact (List.getElem?_eq_some_iff.1 hok).1) hok hwo⟩
      rw [haML]
      have stepB : ∀ (p : V) k ok, l[k]? = some ok → (wrA ok = true → pushA ok = true) → (frx cfg ok = true → ∀ id kk off, p = .ptr id kk off → id ∉ framesAt (st k).env ok) → BoxP p (st k).mem (st (k + 1)).mem := by
        intro p k ok hok hpu hnf
        have hs := htr k _ hok
        by_cases hwo : wrA ok = true
        · rcases hs with ⟨_, hs, _⟩ | ⟨_, _, hs, _⟩
          · cases hfr : frx cfg ok with
            | false => exact (push_keep (hpu hwo) hfr hs).at p
            | true =>
              obtain ⟨e1, e2⟩ := framed_keep hfr hs
              exact ⟨e1, fun id kk off e hi t x => by rw [e2 id hi (hnf hfr id kk off e)]⟩
          · rw [hs]; exact .refl _ _
        · rw [step_mem hs (by simpa using hwo)]; exact .refl _ _
      have runB : ∀ (p : V) d k, k + d ≤ ops.size → (∀ n ok, k ≤ n → n < k + d → l[n]? = some ok → (wrA ok = true → pushA ok = true) ∧ (frx cfg ok = true → ∀ id kk off, p = .ptr id kk off → id ∉ framesAt (st n).env ok)) → BoxP p (st k).mem (st (k + d)).mem := by
        intro p d
        induction d with
        | zero => intro k _ _; exact .refl _ _
        | succ d ihd =>
          intro k hk hall'
          refine (ihd k (by omega) fun n ok h1 h2 => hall' n ok h1 (by omega)).trans ?_
          have hon : l[k + d]? = some (l[k + d]'(by omega)) := List.getElem?_eq_getElem (by omega)
          obtain ⟨c1, c2⟩ := hall' (k + d) _ (by omega) (by omega) hon
          exact stepB p (k + d) _ hon c1 c2
      have hpE : ∀ x ∈ q.op.operands, evalO (EL (st 0).env l vs (fun k => listed.getD k false) ops.size) x = evalO (st i).env x := fun x hx => evalO_congr fun t ht => looks t (by
        simp only [looksA, List.mem_append, List.mem_filterMap]
        exact .inl ⟨x, by simpa using hx, by rw [ht]⟩)
      cases hop' : q.op <;> rw [hop'] at hld <;> first | (cases hld; done) | skip
      rename_i t ad
      simp only [opA, hop'] at hop ⊢
      cases hx : evalO (st i).env ad with
      | none => simp [hx] at hop
      | some p =>
        have hxE : evalO (EL (st 0).env l vs (fun k => listed.getD k false) ops.size) ad = some p := by
          rw [hpE ad (by rw [hop']; simp [Op.operands]), hx]
        obtain ⟨u, hvr⟩ : ∃ u, VR Z1 w1 j1 p u := ⟨_, h1.eval ad p hxE⟩
        have hlt1 : ∀ id k off, p = .ptr id k off → id < (st a).mem.length := by
          intro id k off e
          subst e
          rw [← haML]
          cases hvr with
          | ptr hj _ =>
            rcases Nat.lt_or_ge id (ML l st (fun k => listed.getD k false) ops.size).length with q | q
            · exact q
            · rw [h2.out id q] at hj; cases hj
        simp only [hx, hbx1, Option.bind_some, Bool.true_and] at hop ⊢
        have hnf : ∀ n ok, l[n]? = some ok → frx cfg ok = true → ∀ id kk off, p = .ptr id kk off → id ∉ framesAt (st n).env ok := by
          intro n ok hok hfr id kk off e
          have hrd2 : readsAt (st i).env q = [id] := by simp only [readsAt, hop', idsAt, hx, e, ptrId, refs2, refs1, refs0]
          have := frame_apart htr hll hchk hq hbxl hok hfr id (by rw [hrd2]; simp)
          exact this
        cases hbp : boxy (st i).mem p with
        | false => rw [hbp] at hop; simp at hop
        | true =>
          rw [hbp] at hop
          simp only [Bool.not_true, Bool.false_eq_true, if_false, Option.map_eq_some_iff] at hop
          obtain ⟨v, hv, he⟩ := hop
          have hve : v = vs i := congrArg Prod.fst he
          have hlt2 : ∀ id k off, p = .ptr id k off → id < (st i).mem.length := by
            intro id k off e
            subst e
            simp only [boxy] at hbp
            cases hm : (st i).mem[id]? with
            | none => rw [hm] at hbp; cases hbp
            | some _ => exact (List.getElem?_eq_some_iff.1 hm).1
          have both : boxy (st a).mem p = true ∧ loadM cfg.P (st a).mem t p = loadM cfg.P (st i).mem t p := by
            rcases Nat.le_total a i with hai | hia
            · have hB : BoxP p (st a).mem (st i).mem := by
                have := runB p (i - a) a (by omega) fun n ok h1 h2 hok => ⟨fun hwo => D1 n ok (by omega) hok hwo (hahi n ok h1 hok hwo), hnf n ok hok⟩
                rwa [show a + (i - a) = i by omega] at this
              obtain ⟨c1, c2⟩ := box_load (P := cfg.P) (t := t) hB hlt1
              have : boxy (st a).mem p = true := by rw [← c1, hbp]
              exact ⟨this, (c2 this).symm⟩
            · have hB : BoxP p (st i).mem (st a).mem := by
                have := runB p (a - i) i (by omega) fun n ok h1 h2 hok => ⟨fun hwo => (by
                  have hd' := halo n ok (by omega) hok hwo
                  rcases Nat.lt_or_ge i n with q | q
                  · exact D2 n ok q hok hwo hd'
                  · have : n = i := by omega
                    subst this
                    rw [hq] at hok; cases hok
                    rw [hwr] at hwo; cases hwo), hnf n ok hok⟩
                rwa [show i + (a - i) = a by omega] at this
              obtain ⟨c1, c2⟩ := box_load (P := cfg.P) (t := t) hB hlt2
              exact ⟨by rw [c1, hbp], c2 hbp⟩
          rw [both.1]
          simp only [Bool.not_true, Bool.false_eq_true, if_false, both.2, hv, Option.map_some, hve]
    have hlz : lazyOk l = true := by
      unfold drawOk at hd
      simp only [Bool.and_eq_true] at hd
      exact hd.1.1
    have hDi : ∀ k, k ≠ i → (listed.setIfInBounds i true).getD k false = listed.getD k false := fun k hk => by rw [hnew]; simp [hk]
    have hDi' : (listed.setIfInBounds i true).getD i false = true := by rw [hnew]; simp
    have beside : ∀ k m d T, Pair l k m d T → (listed.setIfInBounds i true).getD k false = true → (listed.setIfInBounds i true).getD m false = false → k ≠ i → listed.getD k false = true ∧ listed.getD m false = false ∧ q.dst ≠ some d := by
      intro k m d T hp e1 e2 hki
      have hmi : m ≠ i := fun e => by subst e; rw [hDi'] at e2; cases e2
      refine ⟨by rw [← hDi k hki]; exact e1, by rw [← hDi m hmi]; exact e2, fun e => ?_⟩
      rcases (Pair.writers hlz hp).2 i q hq e with e | e
      · exact hki e.symm
      · exact hmi e.symm
    rcases hpq with hpq | ⟨T, d, x, ty, sq, rx, hop0, hdst, hgd, rfl⟩
    rotate_left
    · obtain ⟨k, d', e1, _, e3, hp, hkm, hu⟩ := lazy_spec hlz hq
      cases e1
      subst e3
      have hkD : listed.getD k false = true := by
        obtain ⟨⟨ty', sq', hk⟩, _⟩ := hp
        exact before k _ hkm hk (by simp [clash, dclash])
      have hmD : listed.getD i false = false := by simpa [Array.getD_eq_getD_getElem?, Array.getElem?_eq_getElem hlt] using hnl'
      obtain ⟨g, us, f1, f2, f3, f4, f5, f6⟩ := hpend.1 k i d T hp hkD hmD
      rcases hstep with ⟨hw, hop, hse⟩ | ⟨hw, _⟩
      rotate_left
      · cases hw
      have hwr : wrA ⟨some d, .box T x, ty, none, true, sq, false⟩ = true := rfl
      rw [opX_no rfl] at hop
      have hM := memEq (.inr hwr) (wr_load hwr)
      have hM' := memNew hwr
      simp only [opA, Option.bind_eq_some_iff] at hop
      obtain ⟨v, hv, hop⟩ := hop
      split at hop
      · cases hop
      rename_i hz0
      split at hop
      rotate_left
      · cases hop
      rename_i hc
      split at hop
      · cases hop
      rename_i hna
      have hop : some (newBox cfg.P (st i).mem T v) = some (vs i, (st (i + 1)).mem) := by
        have hd : drO true ⟨some d, .box T x, ty, none, true, sq, false⟩ = true := rfl
        rw [hd, Bool.true_and] at hna
        unfold newBoxA at hop
        cases hf : findA T 0 (st i).mem with
        | none => rw [hf] at hop; exact hop
        | some r => rw [hf] at hna; simp at hna
      injection hop with hop
      have hvx : evalO (EL (st 0).env l vs (fun k => listed.getD k false) ops.size) x = some v := by
        rw [← hv]
        exact evalO_congr fun t ht => looks t (by simp [looksA, Op.operands, ht])
      have hvr := h1.eval x v hvx
      have hpos : 0 < cfg.P.cellsOf T := by
        rcases Nat.eq_zero_or_pos (cfg.P.cellsOf T) with h | h
        · exact (hz0 (by simp [h])).elim
        · exact h
      rw [hM] at h2 f5
      obtain ⟨w2, j2, r1, r2, r3, r4, r5, r6, r7, r8, r9, r10, r11⟩ := lazyFill h2 f3 f4 f5 f6 hc.1 hc.2 hpos hvr
      have hev : a.eval (.tmp d) = .pointer (some ⟨g, 0, none⟩) := by simp [Act.eval, f1, Array.getD_eq_getD_getElem?]
      have hwt : Region.wanted o (yielded ops a.tmps) = true := by simp [Region.wanted, hgd]
      rw [if_pos hwt]
      refine oper_in (Post := fun u w' => w' = w2) (fun c h => by rw [hop0] at h; cases h) ?_ ?_
      · unfold execOp
        simp only [hop0, hev, Sem.run_bind, r1, Result.andThen_ok]
        rfl
      · rintro u w' rfl
        have e0 : a.put o.dst u = a := by rw [hdst]; rfl
        rw [e0]
        have hm2 : (newBox cfg.P (st i).mem T v).2 = (st (i + 1)).mem := congrArg Prod.snd hop
        have hv2 : (newBox cfg.P (st i).mem T v).1 = vs i := congrArg Prod.fst hop
        rw [hM] at h3
        have hlt2 : g < w1.heap.size := (Array.getElem?_eq_some_iff.1 f3).1
        refine ih _ _ w' hsz' cnt cl ⟨Z1, j2, ?_, ?_, ?_, h4.trans r4, ?_⟩ hkp
        · rw [envEq]
          exact (h1.mono r5 r4).fill f1 (hv2 ▸ r3)
        · rw [hM', ← hm2]; exact r2
        · rw [hM', ← hm2]
          exact ⟨r8.trans h3.os, r9.trans h3.tape, r10.trans h3.output, by rw [r7]; exact h3.size, fun g' hg' hn => ⟨(r6 g' (by omega)).trans (h3.keep g' hg' hn).1, (h3.keep g' hg' hn).2⟩, fun g' hg' ho => by
            rcases r11 g' (Nat.lt_of_lt_of_le hg' h3.size) ho with ho | ho
            · exact h3.owned g' hg' ho
            · omega, h3.z.trans r5, fun t h => ⟨((h3.ar t h).1).newBox _ _, (h3.ar t h).2⟩⟩
        · rw [hM', ← hm2]
          rw [hM] at hpend
          refine ⟨fun k' m' d' T' hp' e1 e2 => ?_, fun k' m' d' T' k'' m'' d'' T'' g' hp' e1 e2 hp'' e1' e2' hne hf hf' => ?_⟩
          · have hki : k' ≠ i := by
              rintro rfl
              obtain ⟨⟨_, _, hk'⟩, _⟩ := hp'
              rw [hq] at hk'; cases hk'
            obtain ⟨c1, c2, c3⟩ := beside k' m' d' T' hp' e1 e2 hki
            obtain ⟨g', us', p1, p2, p3, p4, p5, p6⟩ := hpend.1 k' m' d' T' hp' c1 c2
            have hgg : g' ≠ g := by
              rintro rfl
              exact hpend.2 k i d T k' m' d' T' g' hp hkD hmD hp' c1 c2 (fun e => c3 (by rw [e])) ⟨us, f1, f2, f3, f4, f5, f6⟩ ⟨us', p1, p2, p3, p4, p5, p6⟩
            exact ⟨g', us', p1, p2, (r6 g' hgg).trans p3, p4, fun ho => by
              rcases r11 g' (Array.getElem?_eq_some_iff.1 p3).1 ho with ho | ho
              · exact p5 ho
              · exact hgg ho, p6⟩
          · have hki : ∀ k' m' d' T', Pair l k' m' d' T' → k' ≠ i := by
              rintro k' m' d' T' hp' rfl
              obtain ⟨⟨_, _, hk'⟩, _⟩ := hp'
              rw [hq] at hk'; cases hk'
            obtain ⟨c1, c2, _⟩ := beside k' m' d' T' hp' e1 e2 (hki _ _ _ _ hp')
            obtain ⟨c1', c2', _⟩ := beside k'' m'' d'' T'' hp'' e1' e2' (hki _ _ _ _ hp'')
            obtain ⟨g1, hg1⟩ := hpend.1 k' m' d' T' hp' c1 c2
            obtain ⟨g2, hg2⟩ := hpend.1 k'' m'' d'' T'' hp'' c1' c2'
            have q1 := Fresh.same hg1 rfl hf
            have q2 := Fresh.same hg2 rfl hf'
            subst q1
            subst q2
            exact hpend.2 k' m' d' T' k'' m'' d'' T'' _ hp' c1 c2 hp'' c1' c2' hne hg1 hg2
    obtain ⟨g, bx, sq, rx, rfl, hg⟩ := id hpq
    rcases hstep with ⟨hw, hop, _⟩ | ⟨hw, hv, hm, _⟩
    · have hwt := wanted_sound hpq h1 (hwe.trans hw)
      rw [if_pos hwt]
      have hop2 : opX cfg call (drO true ⟨o.dst, o.op, o.type, g, bx, sq, rx⟩) ⟨o.dst, o.op, o.type, g, bx, sq, rx⟩ (EL (st 0).env l vs (fun k => listed.getD k false) ops.size) (ML l st (fun k => listed.getD k false) ops.size) = some (vs i, ML l st (fun k => (listed.setIfInBounds i true).getD k false) ops.size) := by
        rw [opX_congr (e2 := (st i).env) fun x hx => evalO_congr fun t ht => looks t (by
          simp only [looksA, List.mem_append, List.mem_filterMap]
          exact .inl ⟨x, by simpa using hx, by rw [ht]⟩)]
        by_cases hwr : wrA ⟨o.dst, o.op, o.type, g, bx, sq, rx⟩ = true
        · rw [memEq (.inr hwr) (wr_load hwr), memNew hwr]; exact hop
        · have hwr' : wrA ⟨o.dst, o.op, o.type, g, bx, sq, rx⟩ = false := by simpa using hwr
          have hme := neutral1 hwr' hop
          by_cases hrd : rdA ⟨o.dst, o.op, o.type, g, bx, sq, rx⟩ = true
          · by_cases hbx : bxl ⟨o.dst, o.op, o.type, g, bx, sq, rx⟩ = true
            · exact loads hbx hop
            · rw [memOld hwr', memEq (.inl hrd) (by simpa using hbx), ← hme]
              rw [hme] at hop ⊢
              exact hop
          · rw [memOld hwr']
            exact neutral2 hwr' (by simpa using hrd) hop _
      by_cases hal : ∃ T, o.op = .alloc T ∧ bx = true ∧ rx = false
      · obtain ⟨T, hoT, rfl, rfl⟩ := hal
        have hop3 := hop2
        rw [opX_no rfl] at hop3
        simp only [opA, hoT, Option.bind_eq_some_iff] at hop3
        obtain ⟨z, hz, hop3⟩ := hop3
        split at hop3
        rotate_left
        · cases hop3
        rename_i hc
        simp only [if_true, Option.some.injEq, Prod.mk.injEq] at hop3
        obtain ⟨hvj, hmm⟩ := hop3
        obtain ⟨us, r1, r2⟩ := lazy_alloc (w := w1) hz hc.1 hc.2
        refine oper_in (Post := fun u w' => u = .pointer (some ⟨w1.heap.size, 0, none⟩) ∧ w' = w1.alloc (.cells us T)) (opX_nodefer hop2) ?_ ?_
        · unfold execOp
          simp only [hoT]
          exact okV r1 ⟨rfl, rfl⟩
        · rintro u w2 ⟨rfl, rfl⟩
          have stp := Stp.alloc h2 (.cells us T)
          have hmm' : ML l st (fun k => (listed.setIfInBounds i true).getD k false) ops.size = ML l st (fun k => listed.getD k false) ops.size := hmm.symm
          refine ih _ _ _ hsz' cnt cl ⟨Z1, j1, ?_, by rw [hmm']; exact h2.alloc _, by rw [hmm']; exact h3.trans stp, h4, ?_⟩ (hkp.put (o := ⟨o.dst, o.op, o.type, g, true, sq, false⟩) (List.mem_of_getElem? hq) _)
          · rw [envEq, ← hvj]
            exact (h1.mono stp.z (JExt.refl _)).put o.dst .junk
          · rw [hmm']
            have hold : ∀ k m d T', Pair l k m d T' → (listed.setIfInBounds i true).getD k false = true → (listed.setIfInBounds i true).getD m false = false → k ≠ i → ∃ g, Fresh cfg.P w.heap.size Z1 w1 j1 (ML l st (fun k => listed.getD k false) ops.size) a d T' g ∧ Fresh cfg.P w.heap.size Z1 (w1.alloc (.cells us T)) j1 (ML l st (fun k => listed.getD k false) ops.size) (a.put o.dst (.pointer (some ⟨w1.heap.size, 0, none⟩))) d T' g ∧ listed.getD k false = true ∧ listed.getD m false = false := by
              intro k m d T' hp e1 e2 hki
              obtain ⟨c1, c2, c3⟩ := beside k m d T' hp e1 e2 hki
              obtain ⟨g, hg⟩ := hpend.1 k m d T' hp c1 c2
              exact ⟨g, hg, hg.step stp (put_other c3 _), c1, c2⟩
            have hnewF : ∀ m d T', Pair l i m d T' → Fresh cfg.P w.heap.size Z1 (w1.alloc (.cells us T)) j1 (ML l st (fun k => listed.getD k false) ops.size) (a.put o.dst (.pointer (some ⟨w1.heap.size, 0, none⟩))) d T' w1.heap.size := by
              intro m d T' hp
              obtain ⟨⟨ty', sq', hk⟩, _⟩ := hp
              rw [hq] at hk
              simp only [Option.some.injEq, OpA.mk.injEq] at hk
              obtain ⟨hd1, hd2, _⟩ := hk
              rw [hoT] at hd2
              cases hd2
              have hdl : d < a.tmps.size := by
                have e1 := h1.len
                rw [EL_len] at e1
                have e2 : ∀ n, n ≤ ops.size → (st n).env.length = (st 0).env.length := by
                  intro n
                  induction n with
                  | zero => intro _; rfl
                  | succ n ihn =>
                    intro hn
                    have hon : l[n]? = some (l[n]'(by omega)) := List.getElem?_eq_getElem (by omega)
                    rw [step_env (htr n _ hon), setO_len, ihn (by omega)]
                unfold frameChk at hchk
                rw [Bool.and_eq_true] at hchk
                have e3 := List.all_eq_true.1 hchk.1 _ (List.mem_of_getElem? hq)
                rw [hoT, hd1] at e3
                simp only [isAl, Bool.and_self, Bool.not_true, Bool.false_or, Option.getD_some, Nat.blt_eq] at e3
                rw [e2 ops.size (Nat.le_refl _)] at e3
                omega
              refine ⟨us, ?_, h3.size, heap_alloc_new w1 _, r2, fun ho => ?_, fun o ho => ?_⟩
              · rw [hd1]
                show (a.tmps.setIfInBounds d _)[d]? = _
                rw [Array.getElem?_setIfInBounds_self_of_lt hdl]
              · have := Owned.lt h2 ho; omega
              · have := h2.zin _ _ ho; omega
            refine ⟨fun k m d T' hp e1 e2 => ?_, fun k m d T' k' m' d' T'' g' hp e1 e2 hp' e1' e2' hne hf hf' => ?_⟩
            · by_cases hki : k = i
              · subst hki; exact ⟨_, hnewF m d T' hp⟩
              · obtain ⟨g, _, hg, _⟩ := hold k m d T' hp e1 e2 hki
                exact ⟨g, hg⟩
            · by_cases hki : k = i
              · subst hki
                have hki' : k' ≠ k := by
                  rintro rfl
                  obtain ⟨⟨_, _, a1⟩, _⟩ := hp
                  obtain ⟨⟨_, _, a2⟩, _⟩ := hp'
                  rw [a1] at a2
                  simp only [Option.some.injEq, OpA.mk.injEq] at a2
                  exact hne a2.1
                obtain ⟨g2, hg2, hg3, _⟩ := hold k' m' d' T'' hp' e1' e2' hki'
                have q1 := Fresh.same (hnewF m d T' hp) rfl hf
                have q2 := Fresh.same hg3 rfl hf'
                obtain ⟨_, _, _, p3, _⟩ := hg2
                have := (Array.getElem?_eq_some_iff.1 p3).1
                omega
              · by_cases hki' : k' = i
                · subst hki'
                  obtain ⟨g2, hg2, hg3, _⟩ := hold k m d T' hp e1 e2 hki
                  have q1 := Fresh.same (hnewF m' d' T'' hp') rfl hf'
                  have q2 := Fresh.same hg3 rfl hf
                  obtain ⟨_, _, _, p3, _⟩ := hg2
                  have := (Array.getElem?_eq_some_iff.1 p3).1
                  omega
                · obtain ⟨g1, hg1, hg1', c1, c2⟩ := hold k m d T' hp e1 e2 hki
                  obtain ⟨g2, hg2, hg2', c1', c2'⟩ := hold k' m' d' T'' hp' e1' e2' hki'
                  have q1 := Fresh.same hg1' rfl hf
                  have q2 := Fresh.same hg2' rfl hf'
                  subst q1
                  subst q2
                  exact hpend.2 k m d T' k' m' d' T'' _ hp c1 c2 hp' c1' c2' hne hg1 hg2
      have noPair : ∀ m d T, ¬ Pair l i m d T := by
        rintro m d T ⟨⟨ty', sq', hk⟩, _⟩
        rw [hq] at hk
        simp only [Option.some.injEq, OpA.mk.injEq] at hk
        exact hal ⟨T, hk.2.1, hk.2.2.2.2.1, hk.2.2.2.2.2.2⟩
      have hres := opX_sound hp hi h2 h1.eval hop2
      refine oper_in (opX_nodefer hop2) hres ?_
      rintro u w2 ⟨Z2, j2, q1, q2, q3, q4⟩
      refine ih _ _ w2 hsz' cnt cl ⟨Z2, j2, ?_, q2, h3.trans q3, h4.trans q4, hpend.step q3 fun k m d T hp e1 e2 => ?_⟩ (hkp.put (o := ⟨o.dst, o.op, o.type, g, bx, sq, rx⟩) (List.mem_of_getElem? hq) u)
      · rw [envEq]
        exact (h1.mono q3.z q4).put o.dst q1
      · obtain ⟨c1, c2, c3⟩ := beside k m d T hp e1 e2 (fun e => by subst e; exact noPair m d T hp)
        exact ⟨c1, c2, put_other c3 _⟩
    · have hwt := wanted_sound hpq h1 (hwe.trans hw)
      rw [if_neg (by rw [hwt]; simp)]
      have hmm : ML l st (fun k => (listed.setIfInBounds i true).getD k false) ops.size = ML l st (fun k => listed.getD k false) ops.size := by
        by_cases hwr : wrA ⟨o.dst, o.op, o.type, g, bx, sq, rx⟩ = true
        · rw [memNew hwr, hm, memEq (.inr hwr) (wr_load hwr)]
        · exact memOld (by simpa using hwr)
      refine ⟨fun _ _ => trivial, ih _ _ w1 hsz' cnt cl ⟨Z1, j1, ?_, by rw [hmm]; exact h2, by rw [hmm]; exact h3, h4, ?_⟩ (hkp.put (o := ⟨o.dst, o.op, o.type, g, bx, sq, rx⟩) (List.mem_of_getElem? hq) undef)⟩
      · rw [envEq, hv]
        exact h1.put o.dst (.tup (us := []) rfl fun i c u hc => by simp at hc)
      · rw [hmm]
        refine hpend.step (Stp.refl _ _ _ _) fun k m d T hp e1 e2 => ?_
        obtain ⟨c1, c2, c3⟩ := beside k m d T hp e1 e2 (fun e => by
          subst e
          obtain ⟨⟨ty', sq', hk⟩, _⟩ := hp
          rw [hq] at hk
          simp only [Option.some.injEq, OpA.mk.injEq] at hk
          have hg0 : g = none := hk.2.2.2.1
          subst hg0
          cases hw)
        exact ⟨c1, c2, put_other c3 _⟩
theorem drawn_sound {r : Option Nat} {n : Nat} {cfg : Cfg} {call : CallF} (hm : cfg.P.follows .mixedOrders = true) (hp : PureOK cfg.P call.pc) (hi : ImpOK cfg.P call.ic) {ops : Array Oper} {Q : Exit → Act → World → Prop} {id : Nat} {l : List OpA} {env : List V} {s' : S} {a : Act}
    (hd : drawOk ops l = true) (hl : PrepsD ops ops.toList l) (hchk : frameChk cfg l s'.env = true) (h : opsA cfg call true l ⟨env, mem⟩ = some s') (st : St Z w j env a) (sr : SR cfg.P Z w j mem) (hQ : ∀ a' w', After cfg.P Z w j mem s' a' w' → Kept l a a' → Q .normal a' w') :
    (Code.region id ops true).wpIn (FR r) n cfg.P Q a w := by
  have hll : l.length = ops.size := by have := hl.1; simpa using this
  obtain ⟨vs, sts, e0, e1, htr⟩ := trace l ⟨env, mem⟩ s' h
  refine wpIn_region_any hm ?_
  have hz : ZExt Z w Z { w with drawn := w.drawn + 1 } := .of fun g o h => ⟨h, rfl, rfl⟩
  have no : ∀ k, (Array.replicate ops.size false).getD k false = false := by intro k; simp [Array.getD_eq_getD_getElem?, Array.getElem?_replicate]; split <;> rfl
  have eE : ∀ n, EL (sts 0).env l vs (fun k => (Array.replicate ops.size false).getD k false) n = env := by
    intro n
    induction n with
    | zero => simp [EL, e0]
    | succ n ih => simp only [EL]; rw [if_neg (by simp only [no n]; simp)]; exact ih
  have eM : ∀ n, ML l sts (fun k => (Array.replicate ops.size false).getD k false) n = mem := by
    intro n
    induction n with
    | zero => simp [ML, e0]
    | succ n ih => simp only [ML]; rw [if_neg (by simp only [no n]; simp)]; exact ih
  refine any_sound (Z := Z) (w := w) (j := j) hp hi hl hd (by rw [← hll, e1]; exact hchk) htr ?_ ops.size _ a _ (by simp) (by simp) (fun k o ho hD => by simp [no] at hD) ⟨Z, j, ?_, ?_, ?_, JExt.refl _, ⟨fun k m d T _ hk => by simp [no] at hk, fun k m d T _ _ _ _ _ _ hk => by simp [no] at hk⟩⟩ (Kept.refl l a)
  · rw [← hll, e1, e0]; exact hQ
  · rw [eE]; exact st.mono hz (JExt.refl _)
  · rw [eM]; exact sr.world hz (fun g _ => ⟨rfl, fun _ => Iff.rfl⟩) sr.zin
  · rw [eM, e0]
    exact ⟨rfl, rfl, rfl, Nat.le_refl _, fun _ _ _ => ⟨rfl, fun _ => Iff.rfl⟩, fun _ _ h => h, hz, fun _ h => ⟨h, rfl⟩⟩
end
end Go.Lite