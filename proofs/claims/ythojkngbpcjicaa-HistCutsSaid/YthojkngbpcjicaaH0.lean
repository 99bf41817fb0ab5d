/-
  What is known by a law of its own, and which functions only read.
-/
import Derived.Test.YthojkngbpcjicaaLite24
import Derived.Test.YthojkngbpcjicaaProg
namespace Go.Proofs.Ythojkngbpcjicaa
open Go Go.Lite

def hppr (f : Nat) : Option (List V → Option V) := if f = 30 then some (cloneP 46 2) else if f = 36 then some cmpPr else none
def hipr (f : Nat) : Option (List V → List O → Option (V × List O)) := if f = 38 then some (insP 46 2) else if f = 39 then some (delP 46) else none
noncomputable def hcfg : Cfg := ⟨Try.prog, fun f => f != 38 && f != 39, fun f => f == 29 || f == 30, hppr, hipr⟩
def hik0 (f : Nat) (args : List V) (mem : List O) (k : V → List O → R) : R := cond (f == 38) (insK 46 2 args mem k) (cond (f == 39) (delK 46 args mem k) none)
noncomputable def hk : KC := ⟨hcfg, fun f => f != 8, hik0⟩

theorem hik : IKOK hk := by
  intro f av mem k r h
  rcases cond_some h with ⟨e, h⟩ | ⟨_, h⟩
  · have e : f = 38 := by simpa using e
    subst e
    obtain ⟨v, m, h1, h2⟩ := insK_some h
    exact ⟨v, m, icW_prim (cfg := hk.cfg) (g := insP 46 2) rfl h1, h2⟩
  · rcases cond_some h with ⟨e, h⟩ | ⟨_, h⟩
    · have e : f = 39 := by simpa using e
      subst e
      obtain ⟨v, m, h1, h2⟩ := delK_some h
      exact ⟨v, m, icW_prim (cfg := hk.cfg) (g := delP 46) rfl h1, h2⟩
    · cases h

end Go.Proofs.Ythojkngbpcjicaa
