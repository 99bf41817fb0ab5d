/-
  What is known by a law of its own, and which functions only read.
-/
import Derived.Test.YtgpgjojejdaibaaLite24
import Derived.Test.YtgpgjojejdaibaaLite27
import Derived.Test.YtgpgjojejdaibaaProg
namespace Go.Proofs.Ytgpgjojejdaibaa
open Go Go.Lite

def sppr (f : Nat) : Option (List V → Option V) := if f = 32 then some (cloneP 66 2) else if f = 43 then some (cloneP 41 3) else none
def sipr (f : Nat) : Option (List V → List O → Option (V × List O)) := if f = 51 then some (insP 66 2) else if f = 40 then some (delP 66) else none
/-- the functions that work on memory -/
def simp (f : Nat) : Bool := f == 40 || f == 51 || (Nat.ble 22 f && Nat.ble f 26)
noncomputable def scfg : Cfg := ⟨Try.prog, fun f => !simp f, fun f => f == 9 || f == 32 || f == 43, sppr, sipr, fun f d => f == 4 && (d == 19 || d == 48)⟩
def sik00 (f : Nat) (args : List V) (mem : List O) (k : V → List O → R) : R := cond (f == 51) (insK 66 2 args mem k) (cond (f == 40) (delK 66 args mem k) none)
noncomputable def sk0 : KC := ⟨scfg, fun _ => true, sik00⟩

theorem sik0 : IKOK sk0 := by
  intro f av mem k r h
  rcases cond_some h with ⟨e, h⟩ | ⟨_, h⟩
  · have e : f = 51 := by simpa using e
    subst e
    obtain ⟨v, m, h1, h2⟩ := insK_some h
    exact ⟨v, m, icW_prim (cfg := sk0.cfg) (g := insP 66 2) rfl h1, h2⟩
  · rcases cond_some h with ⟨e, h⟩ | ⟨_, h⟩
    · have e : f = 40 := by simpa using e
      subst e
      obtain ⟨v, m, h1, h2⟩ := delK_some h
      exact ⟨v, m, icW_prim (cfg := sk0.cfg) (g := delP 66) rfl h1, h2⟩
    · cases h

end Go.Proofs.Ytgpgjojejdaibaa
