/-
  What is known by a law of its own, which functions work on memory, and how they are called.
-/
import Derived.Test.YtknapnnpmfhogaaLite31
import Derived.Test.YtknapnnpmfhogaaLite27
import Derived.Test.YtknapnnpmfhogaaLite28
import Derived.Test.YtknapnnpmfhogaaLite29
import Derived.Test.YtknapnnpmfhogaaProg
namespace Go.Proofs.Ytknapnnpmfhogaa
open Go Go.Lite
def keyI : V → Option Int
  | .int .i64 n => if -9223372036854775808 ≤ n ∧ n ≤ 9223372036854775807 then some n else none
  | _ => none
def keyInts (es : List (V × V)) : Option (List Int) := mapO (fun p => keyI p.1) es
def sortedKP (fk : Nat) : List V → List O → Option (V × List O)
  | [.fn f [.ptr b 0 0]], mem =>
    match mem[b]? with
    | some (.box _ m _) => if f = fk then (mapAt mem m).bind fun es => (keyInts es).bind fun ks => if ks.length ≤ 16777216 then some (.own mem.length, mem ++ [.row 3 ((srt ks).map iV) 0]) else none else none
    | _ => none
  | _, _ => none
def sortedKK (fk : Nat) (args : List V) (mem : List O) (k : V → List O → R) : R :=
  match args with
  | [.fn f [.ptr b 0 0]] =>
    match mem[b]? with
    | some (.box _ m _) => gd (Nat.beq f fk) <| mapAtK mem m fun es => opt (keyInts es) fun ks => gd (decide (ks.length ≤ 16777216)) (k (.own mem.length) (mem ++ [.row 3 ((srt ks).map iV) 0]))
    | _ => none
  | _ => none
theorem sortedKK_some {fk : Nat} {args : List V} {mem : List O} {k : V → List O → R} {r : Out} (h : sortedKK fk args mem k = some r) : ∃ v m, sortedKP fk args mem = some (v, m) ∧ k v m = some r := by
  unfold sortedKK at h
  split at h
  · split at h
    · rename_i hb
      obtain ⟨p1, h⟩ := gd_some h
      obtain ⟨es, hes, h⟩ := mapAtK_some h
      obtain ⟨ks, hk, h⟩ := opt_some h
      obtain ⟨p2, h⟩ := gd_some h
      refine ⟨_, _, ?_, h⟩
      unfold sortedKP
      simp only [hb]
      rw [if_pos (Nat.eq_of_beq_eq_true p1)]
      simp only [hes, hk, Option.bind_some]
      rw [if_pos (of_decide_eq_true p2)]
    · cases h
  · cases h
def backR : List V → List (List V)
  | [] => []
  | x :: l => backR l ++ [[.int .i64 (l.length : Int), x]]
def backsR (l : List V) : List (List V) := (l.zipIdx.map fun x => [V.int .i64 (x.2 : Int), x.1]).reverse
def pairV : V → Bool
  | .agg [_, _] => true
  | _ => false
def backP : List V → Option (List (List V))
  | [.ref (.sl l) 0] => if l.length ≤ 16777216 ∧ l.all pairV = true then some (backsR l) else none
  | _ => none
def qseq (f : Nat) : Option (List TypeId × (List V → Option (List (List V)))) := if f = 56 then some ([3, 88], backP) else none
def qppr (f : Nat) : Option (List V → Option V) := if f = 76 then some overP else none
def qipr (f : Nat) : Option (List V → List O → Option (V × List O)) :=
  if f = 43 then some (delP 3) else if f = 37 then some (sortedKP 52) else none
def qimp (f : Nat) : Bool := ([43, 37, 38, 39, 42, 40, 41, 44,
  7, 31, 24, 49, 15, 33, 45,
  8, 29, 27, 30, 25, 26, 9, 10, 11, 13, 14, 19, 21, 20, 22] : List Nat).contains f
def qcan (f : Nat) : Option CM :=
  if ([15, 33, 19, 22, 42, 10, 11, 20] : List Nat).contains f then some ⟨true, false⟩
  else if f = 39 ∨ f = 21 then some ⟨true, true⟩
  else if ([45, 25, 26, 9, 14] : List Nat).contains f then some ⟨false, false⟩ else none
def qars (f : Nat) : List Nat := if ([3, 4, 5, 6, 17] : List Nat).contains f then [63, 7] else []
noncomputable def qcfg : Cfg := { P := Try.prog, pure := fun f => !qimp f, adopt := fun _ => false, pprim := qppr, iprim := qipr, seqp := qseq, ars := qars, can := qcan, rxf := fun f d => f == 25 && d == 4000049 }
def qik0 (f : Nat) (args : List V) (mem : List O) (k : V → List O → R) : R :=
  cond (f == 43) (delK 3 args mem k) (cond (f == 37) (sortedKK 52 args mem k) none)
def backV : List V → Option V
  | [.sl l] => some (.fn 56 [.ref (.sl l) 0])
  | _ => none
def qpv (f : Nat) : Option (List V → Option V) := if f = 48 then some backV else none
noncomputable def qk00 : KC := { cfg := qcfg, frs := fun _ => true, ik := qik0 }
theorem qik00 : IKOK qk00 := by
  refine ⟨?_, fun _ _ _ _ _ _ h => nomatch h⟩
  intro f av mem k r h
  rcases cond_some h with ⟨e, h⟩ | ⟨_, h⟩
  · have e : f = 43 := by simpa using e
    subst e
    obtain ⟨v, m, h1, h2⟩ := delK_some h
    exact ⟨v, m, icW_prim (cfg := qcfg) (g := delP 3) rfl h1, h2⟩
  rcases cond_some h with ⟨e, h⟩ | ⟨_, h⟩
  · have e : f = 37 := by simpa using e
    subst e
    obtain ⟨v, m, h1, h2⟩ := sortedKK_some h
    exact ⟨v, m, icW_prim (cfg := qcfg) (g := sortedKP 52) rfl h1, h2⟩
  cases h
noncomputable def faV : FA := (fnA Try.prog (fun _ => false) 48).getD ⟨0, 0, [], [], .skip⟩
theorem faV_eq : fnA qcfg.P (qcfg.rxf 48) 48 = some faV := by kernel_rfl
theorem eV_eq (l : List V) : enterK qk00 false faV [.sl l] [] = some (.done (.fn 56 [.ref (.sl l) 0])) := by kernel_rfl
theorem backV_ok (l : List V) : pcW qcfg 48 [.sl l] = some (.fn 56 [.ref (.sl l) 0]) := pcW_go qik00 rfl faV_eq (eV_eq l) (.refl _)
theorem qpv_some {f : Nat} {g : List V → Option V} {av : List V} {r : V} (h : qpv f = some g) (h2 : g av = some r) : f = 48 ∧ ∃ l, av = [.sl l] ∧ r = .fn 56 [.ref (.sl l) 0] := by
  unfold qpv at h
  split at h
  · rename_i e
    cases h
    unfold backV at h2
    split at h2
    · cases h2; exact ⟨e, _, rfl, rfl⟩
    · cases h2
  · cases h
noncomputable def qk0 : KC := { cfg := qcfg, frs := fun _ => true, ik := qik0, pv := qpv, pvok := fun f g av r h h2 => by obtain ⟨rfl, l, rfl, rfl⟩ := qpv_some h h2; exact backV_ok l }
theorem qikb : IKOK qk0 := ⟨qik00.ik, fun _ _ _ _ _ _ h => nomatch h⟩
end Go.Proofs.Ytknapnnpmfhogaa