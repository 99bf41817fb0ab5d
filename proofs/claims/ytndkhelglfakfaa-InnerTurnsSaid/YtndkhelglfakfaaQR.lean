/-
  The range over two rows side by side: the walk of the function that yields them.
-/
import Derived.RangeFuncNested
import Derived.RangeFuncBound
import Derived.RangeFuncCalls
import Derived.RangeFuncLeaves
import Derived.Shelf.Abstract
import Derived.Shelf.RegionOpen
import Derived.WalkKit
import Derived.OwnWalkIn
import Derived.TacticsInMore
import Derived.LoopNIn
import Derived.LoopIn
import Derived.Stop.RegionWithIn
import Derived.Test.YtndkhelglfakfaaProg
namespace Go.Proofs.Ytndkhelglfakfaa
open Go Go.RowKit Go.Shelf
  attribute [local go_sem] Oper.semAt_some

set_option maxRecDepth 100000 in
set_option maxHeartbeats 4000000 in
theorem both1_in (l B1 o1 B2 o2 n1 c1 n2 c2 N : Nat) (hN : N = min n1 n2) (A1 A2 : Option Addr) (fx fy : Nat → Value) (I : Nat → World → Prop) (Ix : World → Prop) (hn : n1 ≤ 16777216) (hS : ∀ k W, I k W → I k W.drew)
    (h1 : ∀ k W, I k W → W.cell? ⟨B1, o1, none⟩ = some (.slice A1 n1 c1)) (h2 : ∀ k W, I k W → W.cell? ⟨B2, o2, none⟩ = some (.slice A2 n2 c2))
    (hx : ∀ k, k < n1 → k < n2 → ∃ b1 p1 b2 p2, A1 = some ⟨b1, p1, none⟩ ∧ A2 = some ⟨b2, p2, none⟩ ∧ ∀ W, I k W → W.cell? ⟨b1, p1 + k, none⟩ = some (fx k) ∧ W.cell? ⟨b2, p2 + k, none⟩ = some (fy k))
    (hY : ∀ k W, k < n1 → k < n2 → I k W → YieldAt Fence.wide 0 Try.prog l #[fx k, fy k] W fun e W2 => (e = .returned (.bool true) ∧ I (k + 1) W2) ∨ (e = .returned (.bool false) ∧ Ix W2))
    (W : World) (h0 : I 0 W) :
    CallsIn Fence.wide 1 Try.prog 66 #[.func (.yield l) #[] #[], .pointer (some ⟨B1, o1, none⟩), .pointer (some ⟨B2, o2, none⟩)] W fun e W' => (∃ v, e = .returned v) ∧ (I N W' ∨ Ix W') := by
  have g1 := h1 0 W h0
  have g2 := h2 0 W h0
  refine callsIn_of_wp Try.func66 rfl trivial ?_ rfl
  simp only [Try.ntmps66, List.size_toArray, List.length_cons, List.length_nil, Nat.reduceAdd, Nat.reduceSub, Array.replicate_succ, Array.replicate_zero, List.push_toArray, List.append_toArray, List.nil_append, List.cons_append]
  gi_wp2
  --LOOPS
  · obtain rfl : n2 = N := by omega
    clear hN
    gi_loopw [10] (fun i wr => ∃ k : Nat, k ≤ n2 ∧ i = .int .i64 k ∧ I k wr)
      (fun i _ => n2 - (intOf i).toNat)
    case atStart => exact ⟨0, Nat.zero_le _, rfl, h0⟩
    case round =>
      obtain ⟨k, hk, rfl, hI⟩ := hrel
      by_cases hlt : k < n2
      · obtain ⟨b1, p1, b2, p2, rfl, rfl, hcell⟩ := hx k (by omega) (by omega)
        obtain ⟨fn, tmps, assign, body, hy, hR⟩ := hY k wr.drew (by omega) (by omega) (hS k wr hI)
        have q1 := h1 k wr hI
        have q2 := h2 k wr hI
        have hk1 : k < n1 := by omega
        have hk2 : k < n2 := by omega
        obtain ⟨q3, q4⟩ := hcell wr hI
        clear h1 h2 hx hY hS hcell g1 g2 h0
        gi_wp2
        have hR := hR.mono (R' := fun e W2 => ∃ bb, e = .returned (.bool bb) ∧ (bb = true → I (k + 1) W2) ∧ (bb = false → Ix W2)) (by
          rintro e W2 (⟨rfl, h⟩ | ⟨rfl, h⟩)
          · exact ⟨true, rfl, fun _ => h, fun e => by cases e⟩
          · exact ⟨false, rfl, fun e => by (cases e), fun _ => h⟩)
        gi_region_with (refine hR.mono ?_; rintro e W3 ⟨bb, rfl, hb1, hb2⟩)
        all_goals
          cases bb
          rotate_left
          · gi_wp2
            go_roundw
            case rel => exact ⟨k + 1, by omega, by simp, hb1 (by trivial)⟩
            case measure => simp [intOf]; omega
          · gi_wp2
            refine bodyPost_ret (results_none rfl _ _ _) rfl ?_
            exact ⟨⟨_, rfl⟩, .inr (hb2 (by trivial))⟩
      · obtain rfl : k = n2 := by omega
        clear h1 h2 hx hY hS g1 g2 h0
        gi_wp2
        go_end0
        exact ⟨⟨_, rfl⟩, .inl hI⟩
  · obtain rfl : n1 = N := by omega
    clear hN
    gi_loopw [10] (fun i wr => ∃ k : Nat, k ≤ n1 ∧ i = .int .i64 k ∧ I k wr)
      (fun i _ => n1 - (intOf i).toNat)
    case atStart => exact ⟨0, Nat.zero_le _, rfl, h0⟩
    case round =>
      obtain ⟨k, hk, rfl, hI⟩ := hrel
      by_cases hlt : k < n1
      · obtain ⟨b1, p1, b2, p2, rfl, rfl, hcell⟩ := hx k (by omega) (by omega)
        obtain ⟨fn, tmps, assign, body, hy, hR⟩ := hY k wr.drew (by omega) (by omega) (hS k wr hI)
        have q1 := h1 k wr hI
        have q2 := h2 k wr hI
        have hk1 : k < n1 := by omega
        have hk2 : k < n2 := by omega
        obtain ⟨q3, q4⟩ := hcell wr hI
        clear h1 h2 hx hY hS hcell g1 g2 h0
        gi_wp2
        have hR := hR.mono (R' := fun e W2 => ∃ bb, e = .returned (.bool bb) ∧ (bb = true → I (k + 1) W2) ∧ (bb = false → Ix W2)) (by
          rintro e W2 (⟨rfl, h⟩ | ⟨rfl, h⟩)
          · exact ⟨true, rfl, fun _ => h, fun e => by cases e⟩
          · exact ⟨false, rfl, fun e => by (cases e), fun _ => h⟩)
        gi_region_with (refine hR.mono ?_; rintro e W3 ⟨bb, rfl, hb1, hb2⟩)
        all_goals
          cases bb
          rotate_left
          · gi_wp2
            go_roundw
            case rel => exact ⟨k + 1, by omega, by simp, hb1 (by trivial)⟩
            case measure => simp [intOf]; omega
          · gi_wp2
            refine bodyPost_ret (results_none rfl _ _ _) rfl ?_
            exact ⟨⟨_, rfl⟩, .inr (hb2 (by trivial))⟩
      · obtain rfl : k = n1 := by omega
        clear h1 h2 hx hY hS g1 g2 h0
        gi_wp2
        go_end0
        exact ⟨⟨_, rfl⟩, .inl hI⟩
end Go.Proofs.Ytndkhelglfakfaa
