/-
  The range over a slice backwards: the walk of the function that yields its members.
-/
import Derived.RangeFuncNested
import Derived.RangeFuncBound
import Derived.RangeFuncCalls
import Derived.RangeFuncLeaves
import Derived.Shelf.Abstract
import Derived.Shelf.RegionOpen
import Derived.WalkKit
import Derived.OwnWalkIn
import Derived.TacticsInMore
import Derived.LoopNIn
import Derived.LoopIn
import Derived.Stop.RegionWithIn
import Derived.Test.YtknapnnpmfhogaaProg
namespace Go.Proofs.Ytknapnnpmfhogaa
open Go Go.RowKit Go.Shelf
  attribute [local go_sem] Oper.semAt_some
set_option maxRecDepth 100000 in
set_option maxHeartbeats 4000000 in
theorem back1_in (l B1 o1 n1 c1 : Nat) (A1 : Option Addr) (fa fb : Nat → Value) (I : Nat → World → Prop) (Ix : World → Prop) (hn : n1 ≤ 16777216)
    (h1 : ∀ k W, I k W → W.cell? ⟨B1, o1, none⟩ = some (.slice A1 n1 c1))
    (hx : ∀ k, k < n1 → ∃ b1 p1, A1 = some ⟨b1, p1, none⟩ ∧ ∀ W m, I m W → W.cell? ⟨b1, p1 + k * 2, none⟩ = some (fa k) ∧ W.cell? ⟨b1, p1 + k * 2 + 1, none⟩ = some (fb k))
    (hY : ∀ k W, k < n1 → I k W → YieldAt Fence.wide 0 Try.prog l #[.int .i64 ((n1 : Int) - 1 - (k : Int)), (.agg #[fa (n1 - 1 - k), fb (n1 - 1 - k)])] W fun e W2 => (e = .returned (.bool true) ∧ I (k + 1) W2) ∨ (e = .returned (.bool false) ∧ Ix W2))
    (W : World) (h0 : I 0 W) :
    CallsIn Fence.wide 1 Try.prog 56 #[.func (.yield l) #[] #[], .pointer (some ⟨B1, o1, none⟩)] W fun e W' => (∃ v, e = .returned v) ∧ (I n1 W' ∨ Ix W') := by
  have g1 := h1 0 W h0
  refine callsIn_of_wp Try.func56 rfl trivial ?_ rfl
  simp only [Try.ntmps56, List.size_toArray, List.length_cons, List.length_nil, Nat.reduceAdd, Nat.reduceSub, Array.replicate_succ, Array.replicate_zero, List.push_toArray, List.append_toArray, List.nil_append, List.cons_append]
  gi_wp2
  gi_loopw [3] (fun i wr => ∃ k : Nat, k ≤ n1 ∧ i = .int .i64 ((n1 : Int) - 1 - (k : Int)) ∧ I k wr)
    (fun i _ => (intOf i + 1).toNat)
  case atStart => exact ⟨0, Nat.zero_le _, by simp, h0⟩
  case round =>
    obtain ⟨k, hk, rfl, hI⟩ := hrel
    by_cases hlt : k < n1
    · obtain ⟨b1, p1, rfl, hcell⟩ := hx (n1 - 1 - k) (by omega)
      have hY2 := hY k wr hlt hI
      obtain ⟨fn, tmps, assign, body, hy, hR⟩ := hY2
      obtain ⟨q3, q4⟩ := hcell wr k hI
      have q1 := h1 k wr hI
      have e1 : ((n1 - 1 - k : Nat) : Int) = (n1 : Int) - 1 - (k : Int) := by omega
      have e2 : ((n1 : Int) - 1 - (k : Int)).toNat = n1 - 1 - k := by omega
      have e3 : ((n1 : Int) - 1 - (k : Int)) ≥ 0 := by omega
      clear h1 hx hY hcell g1 h0
      gi_wp2
      refine hR.mono ?_
      rintro e W3 (⟨rfl, hJ3⟩ | ⟨rfl, hJx3⟩)
      · gi_wp2
        go_roundw
        case rel => exact ⟨k + 1, by omega, by simp; omega, hJ3⟩
        case measure => simp [intOf]; omega
      · gi_wp2
        refine bodyPost_ret (results_none rfl _ _ _) rfl ?_
        exact ⟨⟨_, rfl⟩, .inr hJx3⟩
    · obtain rfl : k = n1 := by omega
      clear h1 hx hY g1 h0
      gi_wp2
      go_end0
      exact ⟨⟨_, rfl⟩, .inl hI⟩
end Go.Proofs.Ytknapnnpmfhogaa