/-
  What is known by a law of its own, and which functions only read.
-/
import Derived.Test.YtndkhelglfakfaaLite24
import Derived.Test.YtndkhelglfakfaaLite27
import Derived.Test.YtndkhelglfakfaaLite29
import Derived.Test.YtndkhelglfakfaaProg
namespace Go.Proofs.Ytndkhelglfakfaa
open Go Go.Lite

def qppr (f : Nat) : Option (List V → Option V) := if f = 57 then some (cloneP 9 1) else if f = 59 then some (cloneP 3 1) else if f = 68 then some overP else none
def qipr (f : Nat) : Option (List V → List O → Option (V × List O)) :=
  if f = 56 then some (insP 9 1) else if f = 58 then some (insP 3 1) else if f = 60 then some (delP 9) else if f = 61 then some (delP 3) else none
/-- the functions that work on memory -/
def qimp (f : Nat) : Bool := f == 56 || f == 58 || f == 60 || f == 61 || f == 41 || f == 35 || f == 36
def qseq (f : Nat) : Option (List TypeId × (List V → Option (List (List V)))) := if f = 66 then some ([9, 3], bothP) else none
noncomputable def qcfg : Cfg := ⟨Try.prog, fun f => !qimp f, fun f => f == 57 || f == 59, qppr, qipr, fun f d => f == 22 && (d == 2000061 || d == 2000095 || d == 2000117), qseq⟩
def qik00 (f : Nat) (args : List V) (mem : List O) (k : V → List O → R) : R :=
  cond (f == 56) (insK 9 1 args mem k) (cond (f == 58) (insK 3 1 args mem k) (cond (f == 60) (delK 9 args mem k) (cond (f == 61) (delK 3 args mem k) none)))
noncomputable def qk0 : KC := ⟨qcfg, fun _ => true, qik00⟩

theorem qik0 : IKOK qk0 := by
  intro f av mem k r h
  rcases cond_some h with ⟨e, h⟩ | ⟨_, h⟩
  · have e : f = 56 := by simpa using e
    subst e
    obtain ⟨v, m, h1, h2⟩ := insK_some h
    exact ⟨v, m, icW_prim (cfg := qk0.cfg) (g := insP 9 1) rfl h1, h2⟩
  rcases cond_some h with ⟨e, h⟩ | ⟨_, h⟩
  · have e : f = 58 := by simpa using e
    subst e
    obtain ⟨v, m, h1, h2⟩ := insK_some h
    exact ⟨v, m, icW_prim (cfg := qk0.cfg) (g := insP 3 1) rfl h1, h2⟩
  rcases cond_some h with ⟨e, h⟩ | ⟨_, h⟩
  · have e : f = 60 := by simpa using e
    subst e
    obtain ⟨v, m, h1, h2⟩ := delK_some h
    exact ⟨v, m, icW_prim (cfg := qk0.cfg) (g := delP 9) rfl h1, h2⟩
  rcases cond_some h with ⟨e, h⟩ | ⟨_, h⟩
  · have e : f = 61 := by simpa using e
    subst e
    obtain ⟨v, m, h1, h2⟩ := delK_some h
    exact ⟨v, m, icW_prim (cfg := qk0.cfg) (g := delP 3) rfl h1, h2⟩
  cases h

end Go.Proofs.Ytndkhelglfakfaa
