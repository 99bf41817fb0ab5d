/-
  A call that works on memory, taken in place: a body without loops is walked where it is called.
-/
import Derived.Test.YtknapnnpmfhogaaLite23
namespace Go.Lite
open Go
noncomputable def retK (kc : KC) (fa : FA) (k : V → List O → R) (s : S) : R := opt (mapO (resV kc.cfg.P s) fa.results) fun vs => k (tupV vs) s.mem
noncomputable def inlK (kc : KC) (fa : FA) (args : List V) (mem : List O) (k : V → List O → R) : R :=
  gd (args.length == fa.np && Nat.ble fa.np fa.nt) (segK kc 0 fa.body 0 ⟨args ++ List.replicate (fa.nt - fa.np) (.tup []), mem⟩ (retK kc fa k) (fun _ _ => none) (retK kc fa k))
theorem nl_exec {cfg : Cfg} {n0 n1 : Nat} : ∀ (c : C) (s : S), nl c = 0 → execW cfg n0 c s = execW cfg n1 c s := by
  intro c
  induction c with
  | seq a b iha ihb =>
    intro s h
    simp only [nl] at h
    simp only [execW, iha s (by omega)]
    congr 1
    funext r
    obtain ⟨x, s'⟩ := r
    cases x <;> simp only [ihb _ (by omega : nl b = 0)]
  | cond c a b iha ihb =>
    intro s h
    simp only [nl] at h
    simp only [execW, iha s (by omega), ihb s (by omega)]
  | block i c ih => intro s h; simp only [nl] at h; simp only [execW, ih s h]
  | loop f c _ => intro s h; simp [nl] at h
  | cseq f a b _ _ => intro s h; simp [nl] at h
  | uncons g ps ws a b iha ihb =>
    intro s h
    simp only [nl] at h
    simp only [execW, iha _ (by omega : nl a = 0), ihb _ (by omega : nl b = 0)]
  | _ => intro s _; rfl
theorem inlK_some {kc : KC} (hik : IKOK kc) {f : FuncId} {fa : FA} {args : List V} {mem : List O} {k : V → List O → R} {r : Out} (hp : kc.cfg.iprim f = none) (hf : fnA kc.cfg.P (kc.cfg.rxf f) f = some fa) (hn : nl fa.body = 0)
    (h : inlK kc fa args mem k = some r) : ∃ v m, icW kc.cfg f args mem = some (v, m) ∧ k v m = some r := by
  obtain ⟨ha, h⟩ := gd_some h
  simp only [Bool.and_eq_true, beq_iff_eq, Nat.ble_eq] at ha
  have fin : ∀ (x : Ex) (s' : S), execW kc.cfg 0 fa.body ⟨args ++ List.replicate (fa.nt - fa.np) (.tup []), mem⟩ = some (x, s') → endW x = true → retK kc fa k s' = some r →
      ∃ v m, icW kc.cfg f args mem = some (v, m) ∧ k v m = some r := by
    intro x s' hx he hr
    obtain ⟨vs, h1, h2⟩ := opt_some hr
    refine ⟨tupV vs, s'.mem, icW_run hp hf ?_, h2⟩
    unfold runW
    rw [if_pos ha, nl_exec (n1 := 0) _ _ hn]
    cases x with
    | exit i => cases he
    | norm => simp only [hx, Option.bind_some, h1, Option.map_some]
    | ret => simp only [hx, Option.bind_some, h1, Option.map_some]
  rcases segK_some hik _ _ _ _ _ _ _ h with ⟨s2, g1, g2⟩ | ⟨e, s2, g1, g2⟩ | ⟨s2, g1, g2⟩ | ⟨j', s2, _, g1, g2, g3⟩
  · exact fin _ _ g1 rfl g2
  · cases g2
  · exact fin _ _ g1 rfl g2
  · omega
noncomputable def inlAt (kc : KC) : List (Nat × FA) → FuncId → List V → List O → (V → List O → R) → R
  | [], f, args, mem, k => kc.ik f args mem k
  | x :: l, f, args, mem, k => cond (Nat.beq f x.1) (inlK kc x.2 args mem k) (inlAt kc l f args mem k)
noncomputable def KC.inl (kc : KC) (l : List (Nat × FA)) : KC := { kc with ik := inlAt kc l }
theorem inl_ok {kc : KC} (hik : IKOK kc) {l : List (Nat × FA)} (h : ∀ x ∈ l, kc.cfg.iprim x.1 = none ∧ fnA kc.cfg.P (kc.cfg.rxf x.1) x.1 = some x.2 ∧ nl x.2.body = 0) : IKOK (kc.inl l) := by
  refine ⟨fun f as mem k r hr => ?_, fun rd f as mem k r hr => hik.ck rd f as mem k r hr⟩
  show ∃ v m, icW kc.cfg f as mem = some (v, m) ∧ k v m = some r
  change inlAt kc l f as mem k = some r at hr
  induction l with
  | nil => exact hik.ik f as mem k r hr
  | cons x l ih =>
    rcases cond_some hr with ⟨c1, h2⟩ | ⟨_, h2⟩
    · obtain ⟨a, b, c⟩ := h x (by simp)
      have e : f = x.1 := Nat.eq_of_beq_eq_true c1
      subst e
      exact inlK_some hik a b c h2
    · exact ih (fun y hy => h y (by simp [hy])) h2
def cloOf : List V → Nat
  | [] => 0
  | .fn f _ :: _ => f
  | _ :: l => cloOf l
def GoN (kc : KC) (n0 : Nat) (fa : FA) (rd : CM) (mem : List O) (o : Out) (r : V × List O) : Prop := ∃ v m, Go kc true n0 fa o (.doneM v m) ∧ canNorm rd mem v m = r
theorem GoN.step {kc : KC} {n0 : Nat} {fa : FA} {rd : CM} {mem : List O} {o o' : Out} {r : V × List O} (hs : ∀ o'', Go kc true n0 fa o o'' → Go kc true n0 fa o' o'') (h : GoN kc n0 fa rd mem o r) : GoN kc n0 fa rd mem o' r :=
  let ⟨v, m, h1, h2⟩ := h
  ⟨v, m, hs _ h1, h2⟩
theorem GoN.done {kc : KC} {n0 : Nat} {fa : FA} {rd : CM} {mem m : List O} {v : V} {r : V × List O} (h : canNorm rd mem v m = r) : GoN kc n0 fa rd mem (.doneM v m) r := ⟨v, m, .refl _, h⟩
theorem icC_go {kc : KC} (hik : IKOK kc) {f : FuncId} {fa : FA} {rd : CM} {args : List V} {mem : List O} {o : Out} {r : V × List O} (hp : kc.cfg.iprim f = none) (hf : fnA kc.cfg.P (kc.cfg.rxf f) f = some fa) (h : enterK kc true fa args mem = some o) (hg : GoN kc mem.length fa rd mem o r) :
    icC kc.cfg rd f args mem = some r := by
  obtain ⟨v, m, h1, h2⟩ := hg
  unfold icC
  rw [icW_go hik hp hf h h1, Option.map_some, h2]
end Go.Lite