/-
  What is known by a law of its own, and which functions only read.
-/
import Derived.Test.YtnaidbmgibmnbaaLite31
import Derived.Test.YtnaidbmgibmnbaaLite27
import Derived.Test.YtnaidbmgibmnbaaLite28
import Derived.Test.YtnaidbmgibmnbaaProg
namespace Go.Proofs.Ytnaidbmgibmnbaa
open Go Go.Lite

/-- what a range over slices.Values tells -/
def valuesP : List V → Option (List (List V))
  | [.ref (.sl l) 0] => (intsOf l).bind fun xs => if xs.length ≤ 16777216 then some (xs.map fun x => [iV x]) else none
  | _ => none
def mip (f : Nat) : Option (List V → List O → Option (V × List O)) := if f = 41 then some (sortP 3) else if f = 39 then some (compactP 3) else none
def mppA (f : Nat) : Option (List V → Option V) := if f = 26 then some (cloneP 3 1) else none
def mseq (f : Nat) : Option (List TypeId × (List V → Option (List (List V)))) := if f = 42 then some ([3], valuesP) else none
/-- the functions that work on memory -/
def mimp (f : Nat) : Bool := f == 41 || f == 39 || f == 40 || f == 44 || f == 33 || f == 28
/-- first of all for 'right', in which the sorted slice is cut in place -/
noncomputable def cfgA : Cfg := ⟨Try.prog, fun f => !(mimp f || f == 24), fun f => f == 26, mppA, mip, fun _ _ => false, mseq⟩
def mik0 (f : Nat) (args : List V) (mem : List O) (k : V → List O → R) : R :=
  cond (f == 41) (sortK 3 args mem k) (cond (f == 39) (compactK 3 args mem k) none)
noncomputable def kcA00 : KC := { cfg := cfgA, frs := fun _ => true, ik := mik0 }

theorem mik_some {cfg : Cfg} (hip : cfg.iprim = mip) {f : Nat} {av : List V} {mem : List O} {k : V → List O → R} {r : Out} (h : mik0 f av mem k = some r) : ∃ v m, icW cfg f av mem = some (v, m) ∧ k v m = some r := by
  rcases cond_some h with ⟨e, h⟩ | ⟨_, h⟩
  · have e : f = 41 := by simpa using e
    subst e
    obtain ⟨v, m, h1, h2⟩ := sortK_some h
    exact ⟨v, m, icW_prim (cfg := cfg) (g := sortP 3) (by rw [hip]; rfl) h1, h2⟩
  rcases cond_some h with ⟨e, h⟩ | ⟨_, h⟩
  · have e : f = 39 := by simpa using e
    subst e
    obtain ⟨v, m, h1, h2⟩ := compactK_some h
    exact ⟨v, m, icW_prim (cfg := cfg) (g := compactP 3) (by rw [hip]; rfl) h1, h2⟩
  cases h
theorem ikA00 : IKOK kcA00 := fun _ _ _ _ _ h => mik_some rfl h

/-- slices.Values: the function that yields them -/
def valP : List V → Option V
  | [.sl l] => some (.fn 42 [.ref (.sl l) 0])
  | _ => none
def mpv (f : Nat) : Option (List V → Option V) := if f = 25 then some valP else none
noncomputable def faV : FA := (fnA Try.prog (fun _ => false) 25).getD ⟨0, 0, [], [], .skip⟩
theorem faV_eq : fnA cfgA.P (cfgA.rxf 25) 25 = some faV := by kernel_rfl
theorem eV_eq (l : List V) : enterK kcA00 false faV [.sl l] [] = some (.done (.fn 42 [.ref (.sl l) 0])) := by kernel_rfl
theorem valA (l : List V) : pcW cfgA 25 [.sl l] = some (.fn 42 [.ref (.sl l) 0]) := pcW_go ikA00 rfl faV_eq (eV_eq l) (.refl _)
theorem mpv_some {f : Nat} {g : List V → Option V} {av : List V} {r : V} (h : mpv f = some g) (h2 : g av = some r) : f = 25 ∧ ∃ l, av = [.sl l] ∧ r = .fn 42 [.ref (.sl l) 0] := by
  unfold mpv at h
  split at h
  · rename_i e
    cases h
    unfold valP at h2
    split at h2
    · cases h2; exact ⟨e, _, rfl, rfl⟩
    · cases h2
  · cases h
noncomputable def kcA0 : KC := { cfg := cfgA, frs := fun _ => true, ik := mik0, pv := mpv, pvok := fun f g av r h h2 => by obtain ⟨rfl, l, rfl, rfl⟩ := mpv_some h h2; exact valA l }
theorem ikA0 : IKOK kcA0 := fun _ _ _ _ _ h => mik_some rfl h
end Go.Proofs.Ytnaidbmgibmnbaa
