/-
  How all leaves come home: as a question.
-/
import Derived.Test.YtnaidbmgibmnbaaM11
namespace Go.Proofs.Ytnaidbmgibmnbaa
open Go Go.Lite

def runK (args : List V) (mem : List O) (k : V → List O → R) : R :=
  match args, mem with
  | [.agg [.own 3, .fn f [.ptr 2 0 0]]], [.row 44 [] 0, .row 3 [] 0, .box 22 (.sl hs) false, .row 3 l 0] => gd (Nat.beq f 27) <| opt (intsOf hs) fun hs0 => opt (intsOf l) fun l0 => gd (decide (hs0.length = l0.length ∧ l0.length ≤ 65536)) <|
      k (.own 6) [.row 44 [] 0, .row 3 [] 0, .box 22 (.sl hs) false, .row 3 ((rgo hs0 l0.length 0 l0).1.map iV) 0, .box 53 (.agg [.tail 3 0, .fn 27 [.ptr 2 0 0]]) false, .row 44 [] 0, .row 44 ((rgo hs0 l0.length 0 l0).2.map eSp) 0]
  | [.agg [.own 2, .fn f [.ptr 0 0 0]]], [.box 3 (.int .i64 b) false, .row 44 [] 0, .row 3 l 0] => gd (Nat.beq f 32) <| opt (intsOf l) fun l0 => gd (decide ((0 ≤ b ∧ b < 1024) ∧ l0.length ≤ 65536)) <|
      k (.own 5) [.box 3 (.int .i64 b) false, .row 44 [] 0, .row 3 ((rgo (hsI b l0.length) l0.length 0 l0).1.map iV) 0, .box 53 (.agg [.tail 2 0, .fn 32 [.ptr 0 0 0]]) false, .row 44 [] 0, .row 44 ((rgo (hsI b l0.length) l0.length 0 l0).2.map eSp) 0]
  | _, _ => none
theorem runK_some {args : List V} {mem : List O} {k : V → List O → R} {r : Out} (h : runK args mem k = some r) : ∃ v m, icW cfgB 28 args mem = some (v, m) ∧ k v m = some r := by
  unfold runK at h
  split at h
  · obtain ⟨hg, h1⟩ := gd_some h
    obtain ⟨hs0, hx, h2⟩ := opt_some h1
    obtain ⟨l0, hy, h3⟩ := opt_some h2
    obtain ⟨hl, h4⟩ := gd_some h3
    clear h h1 h2 h3
    have hg := Nat.eq_of_beq_eq_true hg
    subst hg
    obtain ⟨p1, p2⟩ := of_decide_eq_true hl
    have e1 := intsOf_some hx
    have e2 := intsOf_some hy
    subst e1 e2
    exact ⟨_, _, runa_ok hs0 l0 p2 p1, h4⟩
  · obtain ⟨hg, h1⟩ := gd_some h
    obtain ⟨l0, hy, h3⟩ := opt_some h1
    obtain ⟨hl, h4⟩ := gd_some h3
    clear h h1 h3
    have hg := Nat.eq_of_beq_eq_true hg
    subst hg
    obtain ⟨p1, p2⟩ := of_decide_eq_true hl
    have e2 := intsOf_some hy
    subst e2
    exact ⟨_, _, runb_ok _ p1 l0 p2, h4⟩
  · cases h
noncomputable def kcC : KC := { kcB with ik := fun f args mem k => cond (f == 28) (runK args mem k) (kcB.ik f args mem k) }
theorem ikC : IKOK kcC := by
  intro f av mem k r h
  rcases cond_some h with ⟨e, h⟩ | ⟨_, h⟩
  · have e : f = 28 := by simpa using e
    subst e
    exact runK_some h
  · exact ikB f av mem k r h
end Go.Proofs.Ytnaidbmgibmnbaa
