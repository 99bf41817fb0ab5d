/-
  The interpreter without a bound, as equations: what a body does when calls and loops may take any number of steps.
-/
import Derived.Test.YtknapnnpmfhogaaLite18
namespace Go.Lite
open Go
noncomputable def pcW (cfg : Cfg) (f : FuncId) (as : List V) : Option V := lim fun n => (callN cfg n).pc f as
noncomputable def icW (cfg : Cfg) (f : FuncId) (as : List V) (mem : List O) : Option (V × List O) := lim fun n => (callN cfg n).ic f as mem
noncomputable def callW (cfg : Cfg) : CallF := ⟨pcW cfg, icW cfg⟩
noncomputable def iterW (step : S → Option (Ex × S)) (s : S) : Option (Ex × S) := lim fun n => iter step n s
noncomputable def execW (cfg : Cfg) (n0 : Nat) : C → S → Option (Ex × S)
  | .skip, s => some (.norm, s)
  | .ops dr l, s => (opsA cfg (callW cfg) dr l s).bind fun s => if !dr || frameChk cfg l s.env then some (.norm, s) else none
  | .seq a b, s => (execW cfg n0 a s).bind fun r =>
      match r with
      | (.norm, s') => execW cfg n0 b s'
      | (.exit i, s') => some (.exit i, s')
      | (.ret, s') => some (.ret, s')
  | .cond c a b, s => (evalO s.env c).bind fun v =>
      match v with
      | .bool t => if t then execW cfg n0 a s else execW cfg n0 b s
      | _ => none
  | .block id c, s => (execW cfg n0 c s).map fun r =>
      match r with
      | (.norm, s') => (.norm, s')
      | (.exit i, s') => if i = id then (.norm, s') else (.exit i, s')
      | (.ret, s') => (.ret, s')
  | .loop f c, s => (iterW (fun s => execW cfg n0 c (clean n0 f s)) s).map fun r => (r.1, clean n0 f r.2)
  | .exit i, s => some (.exit i, s)
  | .ret, s => some (.ret, s)
  | .start g, s => (startA cfg g s).map fun s => (.norm, s)
  | .uncons g ps ws a b, s =>
    match s.env[g]? with
    | some (.rest _ []) => execW cfg n0 b s
    | some (.rest ts (.tup vs :: l)) =>
      if vs.length = ps.length then (execW cfg n0 a ⟨setPs (s.env.set g .junk) ps vs, s.mem⟩).map fun r => (r.1, ⟨(forget r.2.env ws).set g (.rest ts l), r.2.mem⟩) else none
    | _ => none
  | .cseq f a b, s => (execW cfg n0 a s).bind fun r =>
      match r with
      | (.norm, s') => execW cfg n0 b (clean n0 f s')
      | (.exit i, s') => some (.exit i, s')
      | (.ret, s') => some (.ret, s')
noncomputable def runW (cfg : Cfg) (fa : FA) (args : List V) (mem : List O) : Option (List V × List O) :=
  if args.length = fa.np ∧ fa.np ≤ fa.nt then
    (execW cfg mem.length fa.body ⟨args ++ List.replicate (fa.nt - fa.np) (.tup []), mem⟩).bind fun r =>
      match r with
      | (.exit _, _) => none
      | (_, s) => (mapO (resV cfg.P s) fa.results).map fun vs => (vs, s.mem)
  else none
section
variable {cfg : Cfg}
theorem pc_mono (f : FuncId) (as : List V) : Mono fun n => (callN cfg n).pc f as := fun _ _ _ h q => (callN_mono h).1 _ _ _ q
theorem ic_mono (f : FuncId) (as : List V) (mem : List O) : Mono fun n => (callN cfg n).ic f as mem := fun _ _ _ h q => (callN_mono h).2 _ _ _ _ q
theorem pcW_ex {f : FuncId} {as : List V} {r : V} (h : pcW cfg f as = some r) : ∃ n, (callN cfg n).pc f as = some r := lim_ex h
theorem icW_ex {f : FuncId} {as : List V} {mem : List O} {r : V × List O} (h : icW cfg f as mem = some r) : ∃ n, (callN cfg n).ic f as mem = some r := lim_ex h
theorem pcW_of {f : FuncId} {as : List V} {r : V} (n : Nat) (h : (callN cfg n).pc f as = some r) : pcW cfg f as = some r := lim_of (pc_mono f as) h
theorem callA_W {dr : Bool} {f : FuncId} {args : List V} {mem : List O} {r : V × List O} (hr : callA cfg (callW cfg) dr f args mem = some r) : ∃ n, callA cfg (callN cfg n) dr f args mem = some r := by
  unfold callA at hr
  split at hr
  · cases hr
  · rename_i h1
    split at hr
    · rename_i h2
      simp only [Option.bind_eq_some_iff] at hr
      obtain ⟨as, q1, x, q2, q3⟩ := hr
      obtain ⟨n, hn⟩ := pcW_ex q2
      refine ⟨n, ?_⟩
      unfold callA
      rw [if_neg h1, if_pos h2]
      simp only [Option.bind_eq_some_iff]
      exact ⟨as, q1, x, hn, q3⟩
    · rename_i h2
      split at hr
      · cases hr
      · rename_i h3
        cases hcf : cfg.can f with
        | none =>
          rw [hcf] at hr
          obtain ⟨n, hn⟩ := icW_ex hr
          refine ⟨n, ?_⟩
          unfold callA
          rw [if_neg h1, if_neg h2, if_neg h3, hcf]
          exact hn
        | some rd =>
          rw [hcf] at hr
          simp only [canA, Option.map_eq_some_iff] at hr
          obtain ⟨x, q1, q2⟩ := hr
          obtain ⟨n, hn⟩ := icW_ex q1
          refine ⟨n, ?_⟩
          unfold callA
          rw [if_neg h1, if_neg h2, if_neg h3, hcf]
          simp only [canA, Option.map_eq_some_iff]
          exact ⟨x, hn, q2⟩
theorem opA_W {dr : Bool} {o : OpA} {env : List V} {mem : List O} {r : V × List O} (hr : opA cfg (callW cfg) dr o env mem = some r) : ∃ n, opA cfg (callN cfg n) dr o env mem = some r := by
  rcases o with ⟨dst, op, ty, gu⟩
  cases op
  case call c =>
    obtain ⟨callee, args, ats⟩ := c
    cases callee
    case value f =>
      simp only [opA, Option.bind_eq_some_iff] at hr ⊢
      obtain ⟨fv, q1, args, q2, q3⟩ := hr
      cases fv
      case fn f caps =>
        simp only at q3
        split at q3
        · rename_i hx
          split at q3
          · rename_i hy
            unfold framedA at q3
            split at q3
            · cases q3
            rename_i hna
            simp only [Option.bind_eq_some_iff] at q3
            obtain ⟨x, h1, h2⟩ := q3
            obtain ⟨n, hn⟩ := icW_ex h1
            refine ⟨n, _, q1, args, q2, ?_⟩
            simp only
            rw [if_pos hx, if_pos hy]
            unfold framedA
            rw [if_neg hna]
            simp only [Option.bind_eq_some_iff]
            exact ⟨x, hn, h2⟩
          · cases q3
        · rename_i hx
          obtain ⟨n, hn⟩ := callA_W q3
          exact ⟨n, _, q1, args, q2, by simp only; rw [if_neg hx]; exact hn⟩
      all_goals cases q3
    all_goals exact ⟨0, hr⟩
  case makeFunc fn first caps => cases fn <;> exact ⟨0, hr⟩
  case makeMap t rs => cases rs <;> exact ⟨0, hr⟩
  all_goals exact ⟨0, hr⟩
theorem opX_W {dr : Bool} {o : OpA} {env : List V} {mem : List O} {r : V × List O} (hr : opX cfg (callW cfg) dr o env mem = some r) : ∃ n, opX cfg (callN cfg n) dr o env mem = some r := by
  unfold opX at hr
  split at hr
  · rename_i hx
    simp only [Option.bind_eq_some_iff] at hr
    obtain ⟨x, q1, q2⟩ := hr
    obtain ⟨n, hn⟩ := opA_W q1
    refine ⟨n, ?_⟩
    unfold opX
    rw [if_pos hx, hn]
    exact q2
  · rename_i hx
    obtain ⟨n, hn⟩ := opA_W hr
    refine ⟨n, ?_⟩
    unfold opX
    rw [if_neg hx]
    exact hn
theorem opsA_W {dr : Bool} : ∀ (l : List OpA) (s s' : S), opsA cfg (callW cfg) dr l s = some s' → ∃ n, opsA cfg (callN cfg n) dr l s = some s' := by
  intro l
  induction l with
  | nil => intro s s' hr; exact ⟨0, hr⟩
  | cons o l ih =>
    intro s s' hr
    simp only [opsA, Option.bind_eq_some_iff] at hr ⊢
    obtain ⟨w, q1, q2⟩ := hr
    cases w
    · obtain ⟨n, hn⟩ := ih _ _ q2
      exact ⟨n, false, q1, hn⟩
    · simp only [if_true, Option.bind_eq_some_iff] at q2
      obtain ⟨x, q3, q4⟩ := q2
      obtain ⟨n, hn⟩ := ih _ _ q4
      obtain ⟨m, hm⟩ := opX_W q3
      refine ⟨max n m, true, q1, ?_⟩
      simp only [if_true, Option.bind_eq_some_iff]
      exact ⟨x, opX_mono (callN_mono (Nat.le_max_right n m)) hm, opsA_mono (callN_mono (Nat.le_max_left n m)) _ _ _ hn⟩
def ExecN (cfg : Cfg) (n0 : Nat) (c : C) (s : S) (r : Ex × S) : Prop := ∃ n, exec cfg (callN cfg n) n n0 c s = some r
theorem iter_W {n0 : Nat} {c : C} {g : S → S} {step : S → Option (Ex × S)} (h : ∀ s r, step s = some r → ExecN cfg n0 c (g s) r) : ∀ (k : Nat) (s : S) (r : Ex × S), iter step k s = some r →
    ∃ n, iter (fun s => exec cfg (callN cfg n) n n0 c (g s)) n s = some r := by
  intro k
  induction k with
  | zero => intro s r hr; simp [iter] at hr
  | succ k ih =>
    intro s r hr
    simp only [iter, Option.bind_eq_some_iff] at hr
    obtain ⟨⟨x, s'⟩, q1, q2⟩ := hr
    obtain ⟨n, hn⟩ := h _ _ q1
    have up : ∀ N, n ≤ N → exec cfg (callN cfg N) N n0 c (g s) = some (x, s') := fun N hN => exec_mono (callN_mono hN) hN _ _ _ hn
    cases x with
    | norm =>
      obtain ⟨m, hm⟩ := ih s' r q2
      refine ⟨max n m + 1, ?_⟩
      simp only [iter, Option.bind_eq_some_iff]
      refine ⟨(.norm, s'), up _ (by omega), ?_⟩
      exact iter_mono (fun s r q => exec_mono (callN_mono (by omega : m ≤ max n m + 1)) (by omega) _ _ _ q) m (max n m) s' r (by omega) hm
    | exit i => exact ⟨n + 1, by simp only [iter, Option.bind_eq_some_iff]; exact ⟨_, up _ (by omega), q2⟩⟩
    | ret => exact ⟨n + 1, by simp only [iter, Option.bind_eq_some_iff]; exact ⟨_, up _ (by omega), q2⟩⟩
theorem exec_W {n0 : Nat} : ∀ (c : C) (s : S) (r : Ex × S), execW cfg n0 c s = some r → ExecN cfg n0 c s r := by
  intro c
  induction c with
  | skip => intro s r hr; exact ⟨0, hr⟩
  | ops dr l =>
    intro s r hr
    simp only [execW, Option.bind_eq_some_iff] at hr
    obtain ⟨s', q1, q2⟩ := hr
    obtain ⟨n, hn⟩ := opsA_W _ _ _ q1
    exact ⟨n, by simp only [exec, Option.bind_eq_some_iff]; exact ⟨s', hn, q2⟩⟩
  | seq p q ihp ihq =>
    intro s r hr
    simp only [execW, Option.bind_eq_some_iff] at hr
    obtain ⟨⟨x, s'⟩, q1, q2⟩ := hr
    obtain ⟨n, hn⟩ := ihp _ _ q1
    cases x with
    | norm =>
      obtain ⟨m, hm⟩ := ihq _ _ q2
      refine ⟨max n m, ?_⟩
      simp only [exec, Option.bind_eq_some_iff]
      exact ⟨_, exec_mono (callN_mono (Nat.le_max_left n m)) (Nat.le_max_left n m) _ _ _ hn, exec_mono (callN_mono (Nat.le_max_right n m)) (Nat.le_max_right n m) _ _ _ hm⟩
    | exit i => exact ⟨n, by simp only [exec, Option.bind_eq_some_iff]; exact ⟨_, hn, q2⟩⟩
    | ret => exact ⟨n, by simp only [exec, Option.bind_eq_some_iff]; exact ⟨_, hn, q2⟩⟩
  | cond c p q ihp ihq =>
    intro s r hr
    simp only [execW, Option.bind_eq_some_iff] at hr
    obtain ⟨v, q1, q2⟩ := hr
    cases v <;> simp only at q2 <;> first | (cases q2; done) | skip
    rename_i t
    cases t
    · obtain ⟨n, hn⟩ := ihq _ _ q2
      exact ⟨n, by simp only [exec, Option.bind_eq_some_iff]; exact ⟨_, q1, hn⟩⟩
    · obtain ⟨n, hn⟩ := ihp _ _ q2
      exact ⟨n, by simp only [exec, Option.bind_eq_some_iff]; exact ⟨_, q1, hn⟩⟩
  | block id p ih =>
    intro s r hr
    simp only [execW, Option.map_eq_some_iff] at hr
    obtain ⟨x, q1, q2⟩ := hr
    obtain ⟨n, hn⟩ := ih _ _ q1
    exact ⟨n, by simp only [exec, Option.map_eq_some_iff]; exact ⟨x, hn, q2⟩⟩
  | loop f p ih =>
    intro s r hr
    simp only [execW, Option.map_eq_some_iff] at hr
    obtain ⟨x, q1, q2⟩ := hr
    obtain ⟨k, hk⟩ := lim_ex q1
    obtain ⟨n, hn⟩ := iter_W (g := clean n0 f) (fun s r h => ih _ _ h) k s x hk
    exact ⟨n, by simp only [exec, Option.map_eq_some_iff]; exact ⟨x, hn, q2⟩⟩
  | exit i => intro s r hr; exact ⟨0, hr⟩
  | ret => intro s r hr; exact ⟨0, hr⟩
  | start g => intro s r hr; exact ⟨0, hr⟩
  | cseq f p q ihp ihq =>
    intro s r hr
    simp only [execW, Option.bind_eq_some_iff] at hr
    obtain ⟨⟨x, s'⟩, q1, q2⟩ := hr
    obtain ⟨n, hn⟩ := ihp _ _ q1
    cases x with
    | norm =>
      obtain ⟨m, hm⟩ := ihq _ _ q2
      refine ⟨max n m, ?_⟩
      simp only [exec, Option.bind_eq_some_iff]
      exact ⟨_, exec_mono (callN_mono (Nat.le_max_left n m)) (Nat.le_max_left n m) _ _ _ hn, exec_mono (callN_mono (Nat.le_max_right n m)) (Nat.le_max_right n m) _ _ _ hm⟩
    | exit i => exact ⟨n, by simp only [exec, Option.bind_eq_some_iff]; exact ⟨_, hn, q2⟩⟩
    | ret => exact ⟨n, by simp only [exec, Option.bind_eq_some_iff]; exact ⟨_, hn, q2⟩⟩
  | uncons g ps ws p q ihp ihq =>
    intro s r hr
    unfold ExecN
    simp only [execW] at hr
    simp only [exec]
    cases he : s.env[g]? with
    | none => simp only [he] at hr; cases hr
    | some v =>
      simp only [he] at hr ⊢
      cases v <;> first | (cases hr; done) | skip
      rename_i ts l
      cases l with
      | nil => exact ihq _ _ hr
      | cons x l =>
        cases x <;> first | (cases hr; done) | skip
        try simp only at hr
        try simp only
        split at hr
        · rename_i hc
          simp only [Option.map_eq_some_iff] at hr
          obtain ⟨x, q1, q2⟩ := hr
          obtain ⟨n, hn⟩ := ihp _ _ q1
          exact ⟨n, by rw [if_pos hc, hn, Option.map_some, q2]⟩
        · cases hr
theorem runW_ex {fa : FA} {args : List V} {mem : List O} {r : List V × List O} (hr : runW cfg fa args mem = some r) : ∃ n, runF cfg (callN cfg n) n fa args mem = some r := by
  unfold runW at hr
  split at hr
  · rename_i hc
    simp only [Option.bind_eq_some_iff] at hr
    obtain ⟨x, q1, q2⟩ := hr
    obtain ⟨n, hn⟩ := exec_W _ _ _ q1
    refine ⟨n, ?_⟩
    unfold runF
    rw [if_pos hc]
    simp only [Option.bind_eq_some_iff]
    exact ⟨x, hn, q2⟩
  · cases hr
theorem pcW_run {f : FuncId} {as : List V} {fa : FA} {vs : List V} {mem : List O} {r : V} (hp : cfg.pprim f = none) (hf : fnA cfg.P (cfg.rxf f) f = some fa) (hr : runW cfg fa as [] = some (vs, mem)) (hg : give cfg.P mem fa.rtypes vs = some r) (ha : cfg.ars f = [] := by rfl) :
    pcW cfg f as = some r := by
  obtain ⟨n, hn⟩ := runW_ex hr
  apply pcW_of (n + 1)
  show pcN cfg (callN cfg n) n f as = some r
  unfold pcN
  rw [hp]
  have h1 : arsOk cfg f as = true := by unfold arsOk; rw [ha]; rfl
  have h2 : arsM cfg f = [] := by unfold arsM; rw [ha]; rfl
  simp only [h1, h2, if_true, hf, Option.bind_some, hn]
  unfold giveA
  rw [ha]
  exact hg
theorem pcW_runA {f : FuncId} {as : List V} {fa : FA} {mem mem0 : List O} {v : V} (hp : cfg.pprim f = none) (hf : fnA cfg.P (cfg.rxf f) f = some fa) (hm : arsM cfg f = mem0) (hr : runW cfg fa as mem0 = some ([v], mem)) (hg : v.flat1 = true) (ho : arsOk cfg f as = true) (hne : (cfg.ars f).isEmpty = false) :
    pcW cfg f as = some v := by
  subst hm
  obtain ⟨n, hn⟩ := runW_ex hr
  apply pcW_of (n + 1)
  show pcN cfg (callN cfg n) n f as = some v
  unfold pcN
  rw [hp]
  simp only [ho, if_true, hf, Option.bind_some, hn]
  unfold giveA
  cases he : cfg.ars f with
  | nil => rw [he] at hne; cases hne
  | cons t ts => simp only [hg, if_true]
theorem icW_run {f : FuncId} {as : List V} {fa : FA} {vs : List V} {mem mem' : List O} (hp : cfg.iprim f = none) (hf : fnA cfg.P (cfg.rxf f) f = some fa) (hr : runW cfg fa as mem = some (vs, mem')) :
    icW cfg f as mem = some (tupV vs, mem') := by
  obtain ⟨n, hn⟩ := runW_ex hr
  refine lim_of (ic_mono f as mem) (n := n + 1) ?_
  show icN cfg (callN cfg n) n f as mem = _
  unfold icN
  rw [hp]
  simp only [hf, Option.bind_some, hn, Option.map_some]
theorem pcW_prim {f : FuncId} {as : List V} {g : List V → Option V} {r : V} (hp : cfg.pprim f = some g) (h : g as = some r) : pcW cfg f as = some r := by
  apply pcW_of 1
  show pcN cfg (callN cfg 0) 0 f as = some r
  unfold pcN
  rw [hp]
  exact h
theorem icW_prim {f : FuncId} {as : List V} {mem : List O} {g : List V → List O → Option (V × List O)} {r : V × List O} (hp : cfg.iprim f = some g) (h : g as mem = some r) : icW cfg f as mem = some r := by
  refine lim_of (ic_mono f as mem) (n := 1) ?_
  show icN cfg (callN cfg 0) 0 f as mem = some r
  unfold icN
  rw [hp]
  exact h
theorem iterMono (step : S → Option (Ex × S)) (s : S) : Mono fun n => iter step n s := fun n m x h q => iter_mono (fun _ _ h => h) n m s x h q
theorem iterW_norm {step : S → Option (Ex × S)} {s s' : S} {r : Ex × S} (h : step s = some (.norm, s')) (hr : iterW step s' = some r) : iterW step s = some r := by
  obtain ⟨k, hk⟩ := lim_ex hr
  refine lim_of (iterMono step s) (n := k + 1) ?_
  simp only [iter, h, Option.bind_some, hk]
theorem iterW_exit {step : S → Option (Ex × S)} {s s' : S} {i : Nat} (h : step s = some (.exit i, s')) : iterW step s = some (.exit i, s') := by
  refine lim_of (iterMono step s) (n := 1) ?_
  simp only [iter, h, Option.bind_some]
theorem iterW_ret {step : S → Option (Ex × S)} {s s' : S} (h : step s = some (.ret, s')) : iterW step s = some (.ret, s') := by
  refine lim_of (iterMono step s) (n := 1) ?_
  simp only [iter, h, Option.bind_some]
end
end Go.Lite