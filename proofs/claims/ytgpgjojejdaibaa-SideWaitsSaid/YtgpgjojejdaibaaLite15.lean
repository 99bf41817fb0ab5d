/-
  Lists of operations in whatever order: the theorem.
-/
import Derived.Test.YtgpgjojejdaibaaLite14
namespace Go.Lite
open Go Go.MapKept

section
variable {P : Program} {Z Z' : Zs} {w w' : World} {j j' : J} {mem mem' : List O}

/-! ### what comes before what -/

theorem ancs_spec : ∀ (l : List Oper) (acc : List (List Nat)), (ancs l acc).length = acc.length + l.length ∧ (∀ k, k < acc.length → (ancs l acc)[k]? = acc[k]?) ∧
    ∀ (m : Nat) (o : Oper), l[m]? = some o → ∀ i, i ∈ (ancs l acc).getD (acc.length + m) [] → ∃ e ∈ o.after, Region.binds .any e = true ∧ (i = e.on ∨ (e.on < acc.length + m ∧ i ∈ (ancs l acc).getD e.on [])) := by
  intro l
  induction l with
  | nil => intro acc; exact ⟨rfl, fun _ _ => rfl, fun m o h => by simp at h⟩
  | cons o l ih =>
    intro acc
    simp only [ancs]
    obtain ⟨h1, h2, h3⟩ := ih (acc ++ [(o.after.toList.flatMap fun e => if Region.binds .any e then e.on :: acc.getD e.on [] else []).eraseDups])
    refine ⟨by rw [h1]; simp; omega, fun k hk => by rw [h2 k (by simp; omega), List.getElem?_append_left hk], fun m q hq i hi => ?_⟩
    cases m with
    | zero =>
      simp at hq
      subst hq
      have e0 := h2 acc.length (by simp)
      rw [List.getElem?_append_right (Nat.le_refl _)] at e0
      simp only [Nat.sub_self, List.getElem?_cons_zero] at e0
      rw [Nat.add_zero, List.getD_eq_getElem?_getD, e0] at hi
      simp only [Option.getD_some, List.mem_eraseDups, List.mem_flatMap] at hi
      obtain ⟨e, he, hi⟩ := hi
      split at hi
      · rename_i hb
        refine ⟨e, by simpa using he, hb, ?_⟩
        simp only [List.mem_cons] at hi
        rcases hi with rfl | hi
        · exact .inl rfl
        · right
          have hlt : e.on < acc.length := by
            rcases Nat.lt_or_ge e.on acc.length with h | h
            · exact h
            · rw [List.getD_eq_getElem?_getD, List.getElem?_eq_none h] at hi; simp at hi
          refine ⟨by omega, ?_⟩
          rw [List.getD_eq_getElem?_getD, h2 _ (by simp; omega), List.getElem?_append_left hlt, ← List.getD_eq_getElem?_getD]
          exact hi
      · simp at hi
    | succ m =>
      have := h3 m q (by simpa using hq) i (by simpa [Nat.add_assoc, Nat.add_comm 1 m] using hi)
      simpa [Nat.add_assoc, Nat.add_comm 1 m] using this

def Closed (ops : Array Oper) (D : Nat → Bool) : Prop := ∀ k o, ops[k]? = some o → D k = true → ∀ e ∈ o.after, Region.binds .any e = true → D e.on = true

theorem closed_anc {ops : Array Oper} {D : Nat → Bool} (hc : Closed ops D) : ∀ (k : Nat) (o : Oper), ops[k]? = some o → (∀ e ∈ o.after, Region.binds .any e = true → D e.on = true) → ∀ i, i ∈ (ancs ops.toList []).getD k [] → D i = true := by
  intro k
  induction k using Nat.strongRecOn with
  | _ k ih =>
    intro o ho hall i hi
    have := (ancs_spec ops.toList []).2.2 k o (by simpa using ho) i (by simpa using hi)
    obtain ⟨e, he, hb, h⟩ := this
    rcases h with rfl | ⟨hlt, h⟩
    · exact hall e he hb
    · simp at hlt
      have hD := hall e he hb
      cases hoe : ops[e.on]? with
      | none =>
        have hlen := (ancs_spec ops.toList []).1
        have : ops.size ≤ e.on := by simpa using hoe
        rw [List.getD_eq_getElem?_getD, List.getElem?_eq_none (by rw [hlen]; simpa using this)] at h
        simp at h
      | some oe => exact ih e.on hlt oe hoe (hc e.on oe hoe hD) i h

theorem draw_spec {ops : Array Oper} {l : List OpA} (h : drawOk ops l = true) : (∀ k o, ops[k]? = some o → ∀ e ∈ o.after, Region.binds .any e = true → e.on < k) ∧
    ∀ i k oi ok, i < k → l[i]? = some oi → l[k]? = some ok → clash oi ok = true → i ∈ (ancs ops.toList []).getD k [] := by
  simp only [drawOk, Bool.and_eq_true, List.all_eq_true, List.mem_range] at h
  obtain ⟨h1, h2⟩ := h
  refine ⟨fun k o ho e he hb => ?_, fun i k oi ok hik hi hk hc => ?_⟩
  · have := h1 (o, k) (by rw [List.mem_zipIdx_iff_getElem?]; simpa using ho) e (by simpa using he)
    simpa [hb] using this
  · have hkl : k < l.length := (List.getElem?_eq_some_iff.1 hk).1
    have := h2 k hkl i hik
    simp only [hi, hk, hc, Bool.not_true, Bool.false_or] at this
    simpa using this

/-! ### the frame and the memory behind some of the operations -/

def dstOf (l : List OpA) (k : Nat) : Option Nat := (l[k]?).bind (·.dst)
def wrOf (l : List OpA) (k : Nat) : Bool := match l[k]? with | some o => wrA o | none => false

def EL (e0 : List V) (l : List OpA) (vs : Nat → V) (D : Nat → Bool) : Nat → List V
  | 0 => e0
  | k + 1 => if D k then setO (EL e0 l vs D k) (dstOf l k) (vs k) else EL e0 l vs D k
def ML (l : List OpA) (st : Nat → S) (D : Nat → Bool) : Nat → List O
  | 0 => (st 0).mem
  | k + 1 => if D k && wrOf l k then (st (k + 1)).mem else ML l st D k

theorem setO_len (e : List V) (d : Option Nat) (v : V) : (setO e d v).length = e.length := by cases d <;> simp [setO]
theorem EL_len (e0 : List V) (l : List OpA) (vs : Nat → V) (D : Nat → Bool) (n : Nat) : (EL e0 l vs D n).length = e0.length := by
  induction n with
  | zero => rfl
  | succ n ih => simp only [EL]; split <;> simp [setO_len, ih]
theorem setO_get {e : List V} {d : Option Nat} {v : V} {t : Nat} : (setO e d v)[t]? = if d = some t then (if t < e.length then some v else none) else e[t]? := by
  cases d with
  | none => simp [setO]
  | some d =>
    simp only [setO, Option.some.injEq]
    rw [List.getElem?_set]
    by_cases h : d = t
    · subst h; rfl
    · rw [if_neg h, if_neg h]

theorem EL_congr {e0 : List V} {l : List OpA} {vs : Nat → V} {D D' : Nat → Bool} {t : Nat} : ∀ n, (∀ k, k < n → dstOf l k = some t → D k = D' k) → (EL e0 l vs D n)[t]? = (EL e0 l vs D' n)[t]? := by
  intro n
  induction n with
  | zero => intro _; rfl
  | succ n ih =>
    intro h
    have ih' := ih fun k hk => h k (by omega)
    have e : ∀ D, (EL e0 l vs D (n + 1))[t]? = if D n = true ∧ dstOf l n = some t then (if t < e0.length then some (vs n) else none) else (EL e0 l vs D n)[t]? := by
      intro D
      simp only [EL]
      by_cases hD : D n = true
      · rw [if_pos hD, setO_get, EL_len]
        by_cases hd : dstOf l n = some t
        · have h2 : D n = true ∧ dstOf l n = some t := ⟨hD, hd⟩
          rw [if_pos hd, if_pos h2]
        · rw [if_neg hd, if_neg fun h => hd h.2]
      · rw [if_neg hD, if_neg fun h => hD h.1]
    rw [e, e]
    by_cases hd : dstOf l n = some t
    · rw [h n (by omega) hd, ih']
    · rw [if_neg fun h => hd h.2, if_neg fun h => hd h.2, ih']

theorem ML_congr {l : List OpA} {st : Nat → S} {D D' : Nat → Bool} : ∀ n, (∀ k, k < n → wrOf l k = true → D k = D' k) → ML l st D n = ML l st D' n := by
  intro n
  induction n with
  | zero => intro _; rfl
  | succ n ih =>
    intro h
    simp only [ML]
    rw [ih fun k hk => h k (by omega)]
    by_cases hw : wrOf l n = true
    · rw [h n (by omega) hw]
    · simp only [Bool.not_eq_true] at hw
      simp [hw]

theorem EL_upto {e0 : List V} {l : List OpA} {vs : Nat → V} (m : Nat) : ∀ n, m ≤ n → EL e0 l vs (fun k => decide (k < m)) n = EL e0 l vs (fun _ => true) m := by
  intro n
  induction n with
  | zero => intro h; have : m = 0 := by omega
            subst this; rfl
  | succ n ih =>
    intro h
    by_cases hm : m = n + 1
    · subst hm
      have : ∀ p, p ≤ n + 1 → EL e0 l vs (fun k => decide (k < n + 1)) p = EL e0 l vs (fun _ => true) p := by
        intro p
        induction p with
        | zero => intro _; rfl
        | succ p ihp => intro hp; simp only [EL]; rw [ihp (by omega), if_pos (by simp; omega)]; rfl
      exact this _ (Nat.le_refl _)
    · simp only [EL]
      rw [if_neg (by simp; omega)]
      exact ih (by omega)
theorem ML_upto {l : List OpA} {st : Nat → S} (m : Nat) : ∀ n, m ≤ n → ML l st (fun k => decide (k < m)) n = ML l st (fun _ => true) m := by
  intro n
  induction n with
  | zero => intro h; have : m = 0 := by omega
            subst this; rfl
  | succ n ih =>
    intro h
    by_cases hm : m = n + 1
    · subst hm
      have : ∀ p, p ≤ n + 1 → ML l st (fun k => decide (k < n + 1)) p = ML l st (fun _ => true) p := by
        intro p
        induction p with
        | zero => intro _; rfl
        | succ p ihp => intro hp; simp only [ML]; rw [ihp (by omega)]; simp [show p < n + 1 by omega]
      exact this _ (Nat.le_refl _)
    · simp only [ML]
      have : decide (n < m) = false := by simp; omega
      simp only [this, Bool.false_and, Bool.false_eq_true, if_false]
      exact ih (by omega)

theorem step_env {cfg : Cfg} {call : CallF} {o : OpA} {s s' : S} {v : V} (h : StepA cfg call o s v s') : s'.env = setO s.env o.dst v := by
  rcases h with ⟨_, _, h⟩ | ⟨_, _, _, h⟩ <;> exact h
theorem step_mem {cfg : Cfg} {call : CallF} {o : OpA} {s s' : S} {v : V} (h : StepA cfg call o s v s') (hw : wrA o = false) : s'.mem = s.mem := by
  rcases h with ⟨_, h, _⟩ | ⟨_, _, h, _⟩
  · exact neutral1 hw h
  · exact h

theorem EL_all {cfg : Cfg} {call : CallF} {l : List OpA} {vs : Nat → V} {st : Nat → S} (htr : ∀ (k : Nat) (o : OpA), l[k]? = some o → StepA cfg call o (st k) (vs k) (st (k + 1))) : ∀ m, m ≤ l.length → EL (st 0).env l vs (fun _ => true) m = (st m).env ∧ ML l st (fun _ => true) m = (st m).mem := by
  intro m
  induction m with
  | zero => intro _; exact ⟨rfl, rfl⟩
  | succ m ih =>
    intro hm
    obtain ⟨h1, h2⟩ := ih (by omega)
    have ho : l[m]? = some (l[m]'(by omega)) := List.getElem?_eq_getElem (by omega)
    have hs := htr m _ ho
    refine ⟨?_, ?_⟩
    · simp only [EL, if_true, h1, step_env hs, dstOf, ho, Option.bind_some]
    · simp only [ML, Bool.true_and, h2, wrOf, ho]
      split
      · rfl
      · rename_i hw
        exact (step_mem hs (by simpa using hw)).symm

theorem prep_get {ops : Array Oper} {l : List OpA} (hl : Preps ops ops.toList l) {k : Nat} {o : Oper} (ho : ops[k]? = some o) : ∃ q, l[k]? = some q ∧ PrepOf ops o q := by
  have hk : k < l.length := by rw [hl.1]; simpa using (Array.getElem?_eq_some_iff.1 ho).1
  exact ⟨l[k], List.getElem?_eq_getElem hk, hl.2 k o _ (by simpa using ho) (List.getElem?_eq_getElem hk)⟩

theorem wr_load {o : OpA} (h : wrA o = true) : bxl o = false := by
  unfold wrA at h
  unfold bxl
  rw [Bool.and_eq_true] at h
  have h2 := h.2
  cases hop : o.op <;> first | (simp [isLoad]; done) | (rw [hop] at h2; simp [writesM, isCV] at h2)
theorem spare_no1 {a b : OpA} (hw : wrA a = true) (hn : bxl b = false) : spare a b = false := by
  unfold spare
  rw [wr_load hw, hn]; simp
theorem spare_no2 {a b : OpA} (hw : wrA b = true) (hn : bxl a = false) : spare a b = false := by
  unfold spare
  rw [wr_load hw, hn]; simp

/-- from here on, whatever order is picked -/
theorem any_sound {cfg : Cfg} {call : CallF} (hp : PureOK cfg.P call.pc) (hi : ImpOK cfg.P call.ic) {ops : Array Oper} {Q : Exit → Act → World → Prop} {l : List OpA} {vs : Nat → V} {st : Nat → S}
    (hl : Preps ops ops.toList l) (hd : drawOk ops l = true) (htr : ∀ (k : Nat) (o : OpA), l[k]? = some o → StepA cfg call o (st k) (vs k) (st (k + 1)))
    (hQ : ∀ a' w', After cfg.P Z w j (st 0).mem (st ops.size) a' w' → Q .normal a' w') :
    ∀ (fuel : Nat) (listed : Array Bool) (a : Act) (w1 : World), listed.size = ops.size → listed.toList.count false ≤ fuel → Closed ops (fun k => listed.getD k false) →
      (∃ Z1 j1, St Z1 w1 j1 (EL (st 0).env l vs (fun k => listed.getD k false) ops.size) a ∧ SR cfg.P Z1 w1 j1 (ML l st (fun k => listed.getD k false) ops.size) ∧ Stp Z w j (st 0).mem Z1 w1 j1 (ML l st (fun k => listed.getD k false) ops.size) ∧ JExt j j1) →
      wpAny cfg.P .any ops Q fuel listed a w1 := by
  have hll : l.length = ops.size := by have := hl.1; simpa using this
  obtain ⟨hbind, hclash⟩ := draw_spec hd
  -- all done
  have done : ∀ (listed : Array Bool) (a : Act) (w1 : World), listed.size = ops.size → (∀ k, k < ops.size → listed.getD k false = true) →
      (∃ Z1 j1, St Z1 w1 j1 (EL (st 0).env l vs (fun k => listed.getD k false) ops.size) a ∧ SR cfg.P Z1 w1 j1 (ML l st (fun k => listed.getD k false) ops.size) ∧ Stp Z w j (st 0).mem Z1 w1 j1 (ML l st (fun k => listed.getD k false) ops.size) ∧ JExt j j1) → Q .normal a w1 := by
    intro listed a w1 hsz hall ⟨Z1, j1, h1, h2, h3, h4⟩
    obtain ⟨e1, e2⟩ := EL_all htr ops.size (by omega)
    have eE : EL (st 0).env l vs (fun k => listed.getD k false) ops.size = (st ops.size).env := by
      rw [← e1]
      apply List.ext_getElem?
      intro t
      exact EL_congr _ fun k hk _ => hall k hk
    have eM : ML l st (fun k => listed.getD k false) ops.size = (st ops.size).mem := by
      rw [← e2]
      exact ML_congr _ fun k hk _ => hall k hk
    rw [eE] at h1
    rw [eM] at h2 h3
    exact hQ a w1 ⟨Z1, j1, h1, h2, h3, h4⟩
  have notdone : ∀ (listed : Array Bool), listed.size = ops.size → Region.ready .any ops listed = [] → ∀ k, k < ops.size → listed.getD k false = true := by
    intro listed hsz hr k
    induction k using Nat.strongRecOn with
    | _ k ih =>
      intro hk
      by_cases h : listed.getD k false = true
      · exact h
      · exfalso
        have hok : ops[k]? = some ops[k] := Array.getElem?_eq_getElem hk
        have : k ∈ Region.ready .any ops listed := by
          rw [mem_ready]
          refine ⟨?_, ops[k], hok, fun e he hb => ?_⟩
          · have hlt : k < listed.size := by omega
            simp [Array.getD_eq_getD_getElem?, Array.getElem?_eq_getElem hlt] at h ⊢
            exact h
          · have h2 := hbind k _ hok e he hb
            exact ih e.on h2 (by omega)
        rw [hr] at this
        simp at this
  intro fuel
  induction fuel with
  | zero =>
    intro listed a w1 hsz hcnt hcl hinv
    have hall : ∀ k, k < ops.size → listed.getD k false = true := by
      intro k hk
      have hlt : k < listed.size := by omega
      have h0 : listed.toList.count false = 0 := by omega
      have := List.count_eq_zero.1 h0
      have h2 : listed[k] ∈ listed.toList := by simp
      cases hb : listed[k] with
      | true => simp [Array.getD_eq_getD_getElem?, Array.getElem?_eq_getElem hlt, hb]
      | false => rw [hb] at h2; exact (this h2).elim
    refine ⟨?_, done listed a w1 hsz hall hinv⟩
    apply List.eq_nil_iff_forall_not_mem.2
    intro i hi'
    rw [mem_ready] at hi'
    obtain ⟨h1, o, ho, _⟩ := hi'
    have hlt : i < ops.size := (Array.getElem?_eq_some_iff.1 ho).1
    have h2 := hall i hlt
    have hlt' : i < listed.size := by omega
    simp [Array.getD_eq_getD_getElem?, Array.getElem?_eq_getElem hlt'] at h1 h2
    rw [h1] at h2; cases h2
  | succ fuel ih =>
    intro listed a w1 hsz hcnt hcl hinv
    refine ⟨fun hr => done listed a w1 hsz (notdone listed hsz hr) hinv, fun i hir => ?_⟩
    have hir' := hir
    rw [mem_ready] at hir'
    obtain ⟨hnl, o, ho, hall⟩ := hir'
    have hin : i < ops.size := (Array.getElem?_eq_some_iff.1 ho).1
    have hlt : i < listed.size := by omega
    have hnl' : listed[i] = false := by simpa [Array.getD_eq_getD_getElem?, Array.getElem?_eq_getElem hlt] using hnl
    obtain ⟨q, hq, hpq⟩ := prep_get hl ho
    obtain ⟨g, bx, sq, rx, rfl, hg⟩ := id hpq
    have hstep := htr i _ hq
    have hanc : ∀ k, k ∈ (ancs ops.toList []).getD i [] → listed.getD k false = true := closed_anc hcl i o ho hall
    -- two operations that clash
    have before : ∀ k ok, k < i → l[k]? = some ok → clash ok ⟨o.dst, o.op, o.type, g, bx, sq, rx⟩ = true → listed.getD k false = true := fun k ok hki hk hc => hanc k (hclash k i ok _ hki hk hq hc)
    have oper : ∀ k q, l[k]? = some q → ∃ ok, ops[k]? = some ok := fun k q hk => by
      have : k < ops.size := by rw [← hll]; exact (List.getElem?_eq_some_iff.1 hk).1
      exact ⟨ops[k], Array.getElem?_eq_getElem this⟩
    have behind : ∀ k ok, i < k → l[k]? = some ok → clash ⟨o.dst, o.op, o.type, g, bx, sq, rx⟩ ok = true → listed.getD k false = false := by
      intro k ok hik hk hc
      cases hb : listed.getD k false with
      | false => rfl
      | true =>
        obtain ⟨ok', hok'⟩ := oper k ok hk
        have := closed_anc hcl k ok' hok' (fun e he hbb => hcl k ok' hok' hb e he hbb) i (hclash i k _ ok hik hq hk hc)
        simp [Array.getD_eq_getD_getElem?, Array.getElem?_eq_getElem hlt, hnl'] at this
    have dst_of : ∀ k t, dstOf l k = some t → ∃ ok, l[k]? = some ok ∧ ok.dst = some t := by
      intro k t hk
      unfold dstOf at hk
      cases hlk : l[k]? with
      | none => simp [hlk] at hk
      | some qk =>
        simp [hlk] at hk
        exact ⟨qk, rfl, hk⟩
    have wr_of : ∀ k, wrOf l k = true → ∃ ok, l[k]? = some ok ∧ wrA ok = true := by
      intro k hk
      unfold wrOf at hk
      cases hlk : l[k]? with
      | none => simp [hlk] at hk
      | some qk =>
        simp only [hlk] at hk
        exact ⟨qk, rfl, hk⟩
    have sp1 : ∀ ok : OpA, wrA ok = true → bxl ⟨o.dst, o.op, o.type, g, bx, sq, rx⟩ = false → spare ok ⟨o.dst, o.op, o.type, g, bx, sq, rx⟩ = false := fun ok h hn => spare_no1 h hn
    have sp2 : ∀ ok : OpA, wrA ok = true → bxl ⟨o.dst, o.op, o.type, g, bx, sq, rx⟩ = false → spare ⟨o.dst, o.op, o.type, g, bx, sq, rx⟩ ok = false := fun ok h hn => spare_no2 h hn
    have ldw : wrA ⟨o.dst, o.op, o.type, g, bx, sq, rx⟩ = true → bxl ⟨o.dst, o.op, o.type, g, bx, sq, rx⟩ = false := fun h => wr_load h
    -- what the operation looks at is as it was in the text's order
    have looks : ∀ t, t ∈ looksA ⟨o.dst, o.op, o.type, g, bx, sq, rx⟩ → (EL (st 0).env l vs (fun k => listed.getD k false) ops.size)[t]? = (st i).env[t]? := by
      intro t ht
      have ht' := ht
      rw [← (EL_all htr i (by omega)).1, ← EL_upto i ops.size (by omega)]
      refine EL_congr _ fun k hk hdk => ?_
      obtain ⟨ok, hok, hdo⟩ := dst_of k t hdk
      rcases Nat.lt_trichotomy k i with h | h | h
      · rw [before k ok h hok (by simp only [clash, dclash, hdo]; simp [ht'])]
        simp [h]
      · subst h
        simp [Array.getD_eq_getD_getElem?, Array.getElem?_eq_getElem hlt, hnl']
      · rw [behind k ok h hok (by simp only [clash, dclash, hdo]; simp [ht'])]
        simp; omega
    have self : ∀ k, k = i → listed.getD k false = decide (k < i) := by
      intro k h
      subst h
      simp [Array.getD_eq_getD_getElem?, Array.getElem?_eq_getElem hlt, hnl']
    -- the memory that it reads or writes
    have memEq : (rdA ⟨o.dst, o.op, o.type, g, bx, sq, rx⟩ = true ∨ wrA ⟨o.dst, o.op, o.type, g, bx, sq, rx⟩ = true) → bxl ⟨o.dst, o.op, o.type, g, bx, sq, rx⟩ = false → ML l st (fun k => listed.getD k false) ops.size = (st i).mem := by
      intro hrw hnl0
      rw [← (EL_all htr i (by omega)).2, ← ML_upto i ops.size (by omega)]
      refine ML_congr _ fun k hk hwk => ?_
      obtain ⟨ok, hok, hwo⟩ := wr_of k hwk
      rcases Nat.lt_trichotomy k i with h | h | h
      · rw [before k ok h hok (by simp only [clash, mclash, hwo, sp1 ok hwo hnl0]; rcases hrw with h | h <;> simp [h])]
        simp [h]
      · exact self k h
      · rw [behind k ok h hok (by simp only [clash, mclash, hwo, sp2 ok hwo hnl0]; rcases hrw with h | h <;> simp [h])]
        simp; omega
    -- the next set
    have hnew : ∀ k, (listed.setIfInBounds i true).getD k false = (listed.getD k false || decide (k = i)) := by
      intro k
      simp only [Array.getD_eq_getD_getElem?, Array.getElem?_setIfInBounds]
      by_cases h : i = k
      · subst h; simp [hlt]
      · have : ¬ k = i := fun e => h e.symm
        simp [h, this]
    have envEq : EL (st 0).env l vs (fun k => (listed.setIfInBounds i true).getD k false) ops.size = setO (EL (st 0).env l vs (fun k => listed.getD k false) ops.size) o.dst (vs i) := by
      apply List.ext_getElem?
      intro t
      by_cases hdt : o.dst = some t
      · have e1 : (EL (st 0).env l vs (fun k => (listed.setIfInBounds i true).getD k false) ops.size)[t]? = (EL (st 0).env l vs (fun k => decide (k < i + 1)) ops.size)[t]? := by
          refine EL_congr _ fun k hk hdk => ?_
          obtain ⟨ok, hok, hdo⟩ := dst_of k t hdk
          rw [hnew]
          rcases Nat.lt_trichotomy k i with h | h | h
          · rw [before k ok h hok (by simp only [clash, dclash, hdo]; simp [hdt])]
            simp; omega
          · subst h; simp
          · rw [behind k ok h hok (by simp only [clash, dclash, hdt]; simp [hdo])]
            have : ¬ k = i := by omega
            simp [this]; omega
        rw [e1, EL_upto (i + 1) ops.size (by omega), (EL_all htr (i + 1) (by omega)).1, step_env hstep]
        simp only [hdt, setO_get, if_true, EL_len]
        rw [← (EL_all htr i (by omega)).1, EL_len]
      · rw [setO_get, if_neg hdt]
        refine EL_congr _ fun k hk hdk => ?_
        rw [hnew]
        have : ¬ k = i := by
          intro e
          subst e
          simp [dstOf, hq] at hdk
          exact hdt hdk
        simp [this]
    have cnt : (listed.setIfInBounds i true).toList.count false ≤ fuel := by
      have e : (listed.setIfInBounds i true).toList = listed.toList.set i true := by simp
      rw [e, List.count_set]
      · have h1 : listed.toList[i]'(by simpa using hlt) = false := by simpa using hnl'
        rw [h1]
        have h2 : ((true : Bool) == false) = false := rfl
        rw [h2, if_pos (beq_self_eq_true false), if_neg (by simp)]
        have : 0 < listed.toList.count false := List.count_pos_iff.2 (by rw [← hnl']; simp)
        omega
      · simpa using hlt
    have cl : Closed ops (fun k => (listed.setIfInBounds i true).getD k false) := by
      intro k ok hok hD e he hb
      simp only [hnew] at hD ⊢
      by_cases h : k = i
      · subst h
        rw [ho] at hok; cases hok
        simp [hall e he hb]
      · have h2 : decide (k = i) = false := by simp [h]
        rw [h2, Bool.or_false] at hD
        have h3 : listed.getD e.on false = true := hcl k ok hok hD e he hb
        rw [h3, Bool.true_or]
    -- the memory behind it
    have memNew : wrA ⟨o.dst, o.op, o.type, g, bx, sq, rx⟩ = true → ML l st (fun k => (listed.setIfInBounds i true).getD k false) ops.size = (st (i + 1)).mem := by
      intro hw
      rw [← (EL_all htr (i + 1) (by omega)).2, ← ML_upto (i + 1) ops.size (by omega)]
      refine ML_congr _ fun k hk hwk => ?_
      obtain ⟨ok, hok, hwo⟩ := wr_of k hwk
      rw [hnew]
      rcases Nat.lt_trichotomy k i with h | h | h
      · rw [before k ok h hok (by simp [clash, mclash, hwo, hw, sp1 ok hwo (ldw hw)])]
        simp; omega
      · subst h; simp
      · rw [behind k ok h hok (by simp [clash, mclash, hwo, hw, sp2 ok hwo (ldw hw)])]
        have : ¬ k = i := by omega
        simp [this]; omega
    have memOld : wrA ⟨o.dst, o.op, o.type, g, bx, sq, rx⟩ = false → ML l st (fun k => (listed.setIfInBounds i true).getD k false) ops.size = ML l st (fun k => listed.getD k false) ops.size := by
      intro hw
      refine ML_congr _ fun k hk hwk => ?_
      rw [hnew]
      have : ¬ k = i := by
        intro e
        subst e
        simp [wrOf, hq, hw] at hwk
      simp [this]
    obtain ⟨Z1, j1, h1, h2, h3, h4⟩ := hinv
    have hsz' : (listed.setIfInBounds i true).size = ops.size := by simpa using hsz
    unfold wpOp
    simp only [ho]
    have hwe : wantedA (EL (st 0).env l vs (fun k => listed.getD k false) ops.size) g = wantedA (st i).env g := by
      cases g with
      | none => rfl
      | some tw =>
        simp only [wantedA]
        rw [looks tw.1 (by simp [looksA])]
    -- a load whose place is not told
    have loads : bxl ⟨o.dst, o.op, o.type, g, bx, sq, rx⟩ = true → opX cfg call (drO true ⟨o.dst, o.op, o.type, g, bx, sq, rx⟩) ⟨o.dst, o.op, o.type, g, bx, sq, rx⟩ (st i).env (st i).mem = some (vs i, (st (i + 1)).mem) →
        opX cfg call (drO true ⟨o.dst, o.op, o.type, g, bx, sq, rx⟩) ⟨o.dst, o.op, o.type, g, bx, sq, rx⟩ (st i).env (ML l st (fun k => listed.getD k false) ops.size) = some (vs i, ML l st (fun k => (listed.setIfInBounds i true).getD k false) ops.size) := by
      intro hbx hop
      have hbxl := hbx
      simp only [bxl, Bool.and_eq_true] at hbx
      obtain ⟨⟨hrx, hbx1⟩, hld⟩ := hbx
      have hrx : rx = false := by simpa using hrx
      have hbx1 : bx = true := hbx1
      subst hrx hbx1
      rw [opX_no rfl] at hop ⊢
      have hcv : isCV o.op = false := by
        cases hop' : o.op <;> rw [hop'] at hld <;> first | rfl | (cases hld)
      have hwr : wrA ⟨o.dst, o.op, o.type, g, true, sq, false⟩ = false := by
        cases hop' : o.op <;> rw [hop'] at hld <;> first | rfl | (cases hld)
      have hrd : rdA ⟨o.dst, o.op, o.type, g, true, sq, false⟩ = true := by
        unfold rdA
        simp only [Bool.not_false, Bool.true_and]
        cases hop' : o.op <;> rw [hop'] at hld <;> first | rfl | (cases hld)
      rw [memOld hwr]
      -- the two memories: behind what is done, and in the text's order
      have D1 : ∀ k ok, k < i → l[k]? = some ok → wrA ok = true → listed.getD k false = false → pushA ok = true := by
        intro k ok hki hk hwo hnd
        cases hpu : pushA ok with
        | true => rfl
        | false =>
          have := before k ok hki hk (by simp [clash, mclash, spare, hwo, hrd, hpu, wr_load hwo])
          rw [this] at hnd; cases hnd
      have D2 : ∀ k ok, i < k → l[k]? = some ok → wrA ok = true → listed.getD k false = true → pushA ok = true := by
        intro k ok hki hk hwo hnd
        cases hpu : pushA ok with
        | true => rfl
        | false =>
          have := behind k ok hki hk (by simp [clash, mclash, spare, hwo, hrd, hpu, wr_load hwo])
          rw [this] at hnd; cases hnd
      -- what is done of those that write: the first ones
      have first : ∀ k k' ok ok', k < k' → l[k]? = some ok → l[k']? = some ok' → wrA ok = true → wrA ok' = true → listed.getD k' false = true → listed.getD k false = true := by
        intro k k' ok ok' hkk hk hk' hwo hwo' hd'
        have hin' := hclash k k' ok ok' hkk hk hk' (by simp [clash, mclash, spare, hwo, hwo', wr_load hwo, wr_load hwo'])
        obtain ⟨o', ho'⟩ := oper k' ok' hk'
        exact closed_anc hcl k' o' ho' (fun e he hbb => hcl k' o' ho' hd' e he hbb) k hin'
      obtain ⟨a, hale, haML, halo, hahi⟩ : ∃ a, a ≤ ops.size ∧ ML l st (fun k => listed.getD k false) ops.size = (st a).mem ∧ (∀ k ok, k < a → l[k]? = some ok → wrA ok = true → listed.getD k false = true) ∧
          (∀ k ok, a ≤ k → l[k]? = some ok → wrA ok = true → listed.getD k false = false) := by
        have gen : ∀ n, n ≤ ops.size → ∃ a, a ≤ n ∧ ML l st (fun k => listed.getD k false) n = (st a).mem ∧ (∀ k ok, k < a → l[k]? = some ok → wrA ok = true → listed.getD k false = true) ∧
            (∀ k ok, a ≤ k → k < n → l[k]? = some ok → wrA ok = true → listed.getD k false = false) := by
          intro n
          induction n with
          | zero => intro _; exact ⟨0, Nat.le_refl _, rfl, fun k ok hk => by omega, fun k ok h1 h2 => by omega⟩
          | succ n ihn =>
            intro hn
            obtain ⟨a, b1, b2, b3, b4⟩ := ihn (by omega)
            by_cases hdn : listed.getD n false = true ∧ wrOf l n = true
            · obtain ⟨okn, hokn, hwn⟩ := wr_of n hdn.2
              refine ⟨n + 1, Nat.le_refl _, by simp only [ML, hdn.1, hdn.2, Bool.and_self, if_true], fun k ok hk hok hwo => ?_, fun k ok h1 h2 => by omega⟩
              rcases Nat.lt_or_ge k n with q | q
              · exact first k n ok okn q hok hokn hwo hwn hdn.1
              · have : k = n := by omega
                subst this; exact hdn.1
            · refine ⟨a, by omega, ?_, b3, fun k ok h1 h2 hok hwo => ?_⟩
              · simp only [ML]
                rw [if_neg (by simpa [Bool.and_eq_true] using hdn)]
                exact b2
              · rcases Nat.lt_or_ge k n with q | q
                · exact b4 k ok h1 q hok hwo
                · have : k = n := by omega
                  subst this
                  cases hdk : listed.getD k false with
                  | false => rfl
                  | true =>
                    exact (hdn ⟨hdk, by simp only [wrOf, hok, hwo]⟩).elim
        obtain ⟨a, b1, b2, b3, b4⟩ := gen ops.size (Nat.le_refl _)
        exact ⟨a, b1, b2, b3, fun k ok h1 hok hwo => b4 k ok h1 (by rw [← hll]; exact (List.getElem?_eq_some_iff.1 hok).1) hok hwo⟩
      rw [haML]
      -- from one memory to the other one
      have stepB : ∀ k ok, l[k]? = some ok → (wrA ok = true → pushA ok = true) → Boxes (st k).mem (st (k + 1)).mem := by
        intro k ok hok hpu
        have hs := htr k _ hok
        by_cases hwo : wrA ok = true
        · rcases hs with ⟨_, hs, _⟩ | ⟨_, _, hs, _⟩
          · exact push_keep (hpu hwo) hs
          · rw [hs]; exact .refl _
        · rw [step_mem hs (by simpa using hwo)]; exact .refl _
      have runB : ∀ d k, k + d ≤ ops.size → (∀ n ok, k ≤ n → n < k + d → l[n]? = some ok → wrA ok = true → pushA ok = true) → Boxes (st k).mem (st (k + d)).mem := by
        intro d
        induction d with
        | zero => intro k _ _; exact .refl _
        | succ d ihd =>
          intro k hk hall'
          refine (ihd k (by omega) fun n ok h1 h2 => hall' n ok h1 (by omega)).trans ?_
          have hon : l[k + d]? = some (l[k + d]'(by omega)) := List.getElem?_eq_getElem (by omega)
          exact stepB (k + d) _ hon (hall' (k + d) _ (by omega) (by omega) hon)
      have hpE : ∀ x ∈ o.op.operands, evalO (EL (st 0).env l vs (fun k => listed.getD k false) ops.size) x = evalO (st i).env x := fun x hx => evalO_congr fun t ht => looks t (by
        simp only [looksA, List.mem_append, List.mem_filterMap]
        exact .inl ⟨x, by simpa using hx, by rw [ht]⟩)
      cases hop' : o.op <;> rw [hop'] at hld <;> first | (cases hld; done) | skip
      rename_i t ad
      simp only [opA, hop'] at hop ⊢
      cases hx : evalO (st i).env ad with
      | none => simp [hx] at hop
      | some p =>
        have hxE : evalO (EL (st 0).env l vs (fun k => listed.getD k false) ops.size) ad = some p := by
          rw [hpE ad (by rw [hop']; simp [Op.operands]), hx]
        obtain ⟨u, hvr⟩ : ∃ u, VR Z1 w1 j1 p u := ⟨_, h1.eval ad p hxE⟩
        have hlt1 : ∀ id k off, p = .ptr id k off → id < (st a).mem.length := by
          intro id k off e
          subst e
          rw [← haML]
          cases hvr with
          | ptr hj _ =>
            rcases Nat.lt_or_ge id (ML l st (fun k => listed.getD k false) ops.size).length with q | q
            · exact q
            · rw [h2.out id q] at hj; cases hj
        simp only [hx, Option.bind_some, Bool.true_and] at hop ⊢
        cases hbp : boxy (st i).mem p with
        | false => rw [hbp] at hop; simp at hop
        | true =>
          rw [hbp] at hop
          simp only [Bool.not_true, Bool.false_eq_true, if_false, Option.map_eq_some_iff] at hop
          obtain ⟨v, hv, he⟩ := hop
          have hve : v = vs i := congrArg Prod.fst he
          have hlt2 : ∀ id k off, p = .ptr id k off → id < (st i).mem.length := by
            intro id k off e
            subst e
            simp only [boxy] at hbp
            cases hm : (st i).mem[id]? with
            | none => rw [hm] at hbp; cases hbp
            | some _ => exact (List.getElem?_eq_some_iff.1 hm).1
          have both : boxy (st a).mem p = true ∧ loadM cfg.P (st a).mem t p = loadM cfg.P (st i).mem t p := by
            rcases Nat.le_total a i with hai | hia
            · have hB : Boxes (st a).mem (st i).mem := by
                have := runB (i - a) a (by omega) fun n ok h1 h2 hok hwo => D1 n ok (by omega) hok hwo (hahi n ok h1 hok hwo)
                rwa [show a + (i - a) = i by omega] at this
              obtain ⟨c1, c2⟩ := box_load (P := cfg.P) (t := t) hB hlt1
              have : boxy (st a).mem p = true := by rw [← c1, hbp]
              exact ⟨this, (c2 this).symm⟩
            · have hB : Boxes (st i).mem (st a).mem := by
                have := runB (a - i) i (by omega) fun n ok h1 h2 hok hwo => by
                  have hd' := halo n ok (by omega) hok hwo
                  rcases Nat.lt_or_ge i n with q | q
                  · exact D2 n ok q hok hwo hd'
                  · have : n = i := by omega
                    subst this
                    rw [hq] at hok; cases hok
                    rw [hwr] at hwo; cases hwo
                rwa [show i + (a - i) = a by omega] at this
              obtain ⟨c1, c2⟩ := box_load (P := cfg.P) (t := t) hB hlt2
              exact ⟨by rw [c1, hbp], c2 hbp⟩
          rw [both.1]
          simp only [Bool.not_true, Bool.false_eq_true, if_false, both.2, hv, Option.map_some, hve]
    rcases hstep with ⟨hw, hop, _⟩ | ⟨hw, hv, hm, _⟩
    · have hwt := wanted_sound hpq h1 (hwe.trans hw)
      rw [if_pos hwt]
      refine .inl ?_
      have hop2 : opX cfg call (drO true ⟨o.dst, o.op, o.type, g, bx, sq, rx⟩) ⟨o.dst, o.op, o.type, g, bx, sq, rx⟩ (EL (st 0).env l vs (fun k => listed.getD k false) ops.size) (ML l st (fun k => listed.getD k false) ops.size) = some (vs i, ML l st (fun k => (listed.setIfInBounds i true).getD k false) ops.size) := by
        rw [opX_congr (e2 := (st i).env) fun x hx => evalO_congr fun t ht => looks t (by
          simp only [looksA, List.mem_append, List.mem_filterMap]
          exact .inl ⟨x, by simpa using hx, by rw [ht]⟩)]
        by_cases hwr : wrA ⟨o.dst, o.op, o.type, g, bx, sq, rx⟩ = true
        · rw [memEq (.inr hwr) (wr_load hwr), memNew hwr]; exact hop
        · have hwr' : wrA ⟨o.dst, o.op, o.type, g, bx, sq, rx⟩ = false := by simpa using hwr
          have hme := neutral1 hwr' hop
          by_cases hrd : rdA ⟨o.dst, o.op, o.type, g, bx, sq, rx⟩ = true
          · by_cases hbx : bxl ⟨o.dst, o.op, o.type, g, bx, sq, rx⟩ = true
            · exact loads hbx hop
            · rw [memOld hwr', memEq (.inl hrd) (by simpa using hbx), ← hme]
              rw [hme] at hop ⊢
              exact hop
          · rw [memOld hwr']
            exact neutral2 hwr' (by simpa using hrd) hop _
      have hres := opX_sound hp hi h2 h1.eval hop2
      unfold Oper.wp
      refine hres.upon ?_
      rintro u w2 ⟨Z2, j2, q1, q2, q3, q4⟩
      refine ih _ _ w2 hsz' cnt cl ⟨Z2, j2, ?_, q2, h3.trans q3, h4.trans q4⟩
      rw [envEq]
      exact (h1.mono q3.z q4).put o.dst q1
    · have hwt := wanted_sound hpq h1 (hwe.trans hw)
      rw [if_neg (by rw [hwt]; simp)]
      have hmm : ML l st (fun k => (listed.setIfInBounds i true).getD k false) ops.size = ML l st (fun k => listed.getD k false) ops.size := by
        by_cases hwr : wrA ⟨o.dst, o.op, o.type, g, bx, sq, rx⟩ = true
        · rw [memNew hwr, hm, memEq (.inr hwr) (wr_load hwr)]
        · exact memOld (by simpa using hwr)
      refine ih _ _ w1 hsz' cnt cl ⟨Z1, j1, ?_, by rw [hmm]; exact h2, by rw [hmm]; exact h3, h4⟩
      rw [envEq, hv]
      exact h1.put o.dst (.tup (us := []) rfl fun i c u hc => by simp at hc)

theorem drawn_sound {cfg : Cfg} {call : CallF} (hm : cfg.P.follows .mixedOrders = true) (hp : PureOK cfg.P call.pc) (hi : ImpOK cfg.P call.ic) {ops : Array Oper} {Q : Exit → Act → World → Prop} {id : Nat} {l : List OpA} {env : List V} {s' : S} {a : Act}
    (hd : drawOk ops l = true) (hl : Preps ops ops.toList l) (h : opsA cfg call true l ⟨env, mem⟩ = some s') (st : St Z w j env a) (sr : SR cfg.P Z w j mem) (hQ : ∀ a' w', After cfg.P Z w j mem s' a' w' → Q .normal a' w') :
    (Code.region id ops true).wp cfg.P Q a w := by
  have hll : l.length = ops.size := by have := hl.1; simpa using this
  obtain ⟨vs, sts, e0, e1, htr⟩ := trace l ⟨env, mem⟩ s' h
  refine wp_region_any hm ?_
  have hz : ZExt Z w Z { w with drawn := w.drawn + 1 } := fun g o h => ⟨h, rfl, rfl⟩
  have no : ∀ k, (Array.replicate ops.size false).getD k false = false := by intro k; simp [Array.getD_eq_getD_getElem?, Array.getElem?_replicate]; split <;> rfl
  have eE : ∀ n, EL (sts 0).env l vs (fun k => (Array.replicate ops.size false).getD k false) n = env := by
    intro n
    induction n with
    | zero => simp [EL, e0]
    | succ n ih => simp only [EL]; rw [if_neg (by simp only [no n]; simp)]; exact ih
  have eM : ∀ n, ML l sts (fun k => (Array.replicate ops.size false).getD k false) n = mem := by
    intro n
    induction n with
    | zero => simp [ML, e0]
    | succ n ih => simp only [ML]; rw [if_neg (by simp only [no n]; simp)]; exact ih
  refine any_sound (Z := Z) (w := w) (j := j) hp hi hl hd htr ?_ ops.size _ a _ (by simp) (by simp) (fun k o ho hD => by simp [no] at hD) ⟨Z, j, ?_, ?_, ?_, JExt.refl _⟩
  · rw [← hll, e1, e0]; exact hQ
  · rw [eE]; exact st.mono hz (JExt.refl _)
  · rw [eM]; exact sr.world hz (fun g _ => ⟨rfl, fun _ => Iff.rfl⟩) sr.zin
  · rw [eM, e0]
    exact ⟨rfl, rfl, rfl, Nat.le_refl _, fun _ _ _ => ⟨rfl, fun _ => Iff.rfl⟩, fun _ _ h => h, hz⟩
end

end Go.Lite
