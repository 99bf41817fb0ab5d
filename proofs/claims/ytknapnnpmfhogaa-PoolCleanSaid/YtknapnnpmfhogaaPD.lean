/-
  slices.Delete and field.over, as the pool calls them: the walks of their bodies.
-/
import Derived.Test.YtknapnnpmfhogaaP0
import Derived.Test.YtknapnnpmfhogaaLite30
import Derived.Shelf.Spec.SlicesInsert
import Derived.Lib.SliceRun
namespace Go.Proofs.Ytknapnnpmfhogaa
open Go Go.Lite
set_option maxHeartbeats 4000000 in
set_option maxRecDepth 100000 in
theorem delWI : DelW Try.prog 43 45 3 := by
  have hce : Try.prog.cellsOf 3 = 1 := by kernel_rfl
  have mixed : Try.prog.follows .mixedOrders = true := by kernel_rfl
  have t22 : Try.prog.underlying 45 = some (.slice 3) := by kernel_rfl
  refine ⟨t22, by kernel_rfl, ?_, ?_, ?_⟩
  · intro i z hi hz
    have h1 : (Try.prog.info? 3).bind (·.zero) = some (.int .i64 0) := by kernel_rfl
    rw [hi] at h1
    simp only [Option.bind_some, hz, Option.some.injEq] at h1
    subst h1
    intro v hv
    simp [Value.cells] at hv
    subst hv; rfl
  · intro A n c i w hin hnc hc63 hA0 hA1
    cases A with
    | none =>
      obtain ⟨rfl, rfl⟩ := hA0 rfl
      have : i = 0 := by omega
      subst this
      go_enter Try.func43, Try.ntmps43
      go_wp2
      all_goals (go_ret; exact ⟨rfl, rfl⟩)
    | some a =>
      obtain ⟨g, q, rfl⟩ := hA1 a rfl
      go_enter Try.func43, Try.ntmps43
      go_wp2
      all_goals (go_ret; exact ⟨rfl, rfl⟩)
  · intro g q n c i jj w w2 w3 k hij hjn hnc hc63 hap hcl
    rw [hce] at hap hcl
    simp only [Nat.mul_one] at hap hcl
    have hz1 : ¬ ((i : Int) = (jj : Int)) := by omega
    have hin : i ≤ n := by omega
    have hij' : i ≤ jj := by omega
    have hb1 : ¬ (c = i) := by omega
    have hb2 : i + (n - jj) ≤ n := by omega
    have hb3 : ¬ (c = i + (n - jj)) := by omega
    have hic : i ≤ c := by omega
    have hjc' : jj ≤ c := by omega
    have hbc : i + (n - jj) ≤ c := by omega
    have hnij : (i : Int) + ((n - jj : Nat) : Int) ≤ (n : Int) := by omega
    by_cases hjc : c = jj
    · have hn : n = jj := by omega
      subst hn
      subst hjc
      have hap' := fun ty => hap ty (some ⟨g, q, none⟩) 0 (fun h => absurd h (by omega))
      simp only [Nat.sub_self, Nat.add_zero] at hap' hcl ⊢
      go_enter Try.func43, Try.ntmps43
      go_wp2
      go_region_law_o (refine step_append_run rfl _ _ 45 45 rfl (.slice (some ⟨g, q, none⟩) i c) (.slice (some ⟨g, q, none⟩) 0 0) (by simp [Act.eval, Act.put]) (by simp [Act.eval, Act.put]) (hap' 45) ?_)
      go_wp2
      go_ret
      exact ⟨rfl, rfl⟩
    · go_enter Try.func43, Try.ntmps43
      go_wp2
      go_region_law_o (refine step_append_run rfl _ _ 45 45 rfl (.slice (some ⟨g, q, none⟩) i c) (.slice (some ⟨g, q + jj, none⟩) (n - jj) (c - jj)) (by simp [Act.eval, Act.put]) (by simp [Act.eval, Act.put]) (hap 45 (some ⟨g, q + jj, none⟩) (c - jj) (fun _ => rfl)) ?_)
      go_wp2
      go_ret
      exact ⟨rfl, rfl⟩
set_option maxHeartbeats 4000000 in
set_option maxRecDepth 100000 in
theorem overW : OverW Try.prog 76 9 66 5 := by
  have mixed : Try.prog.follows .mixedOrders = true := by kernel_rfl
  have ts : Try.prog.underlying 9 = some .string := by kernel_rfl
  have tr : Try.prog.underlying 66 = some (.slice 5) := by kernel_rfl
  have tb : Try.prog.underlying 5 = some (.int .u8) := by kernel_rfl
  refine ⟨ts, tr, tb, by kernel_rfl, ?_⟩
  intro b n L c A w w2 r hn hcap hcopy hconv
  have hcopy1 := fun ty => hcopy ty n (.inl rfl)
  have hcopy2 : grownCap w b.size 0 5 = n → ∀ ty, _ := fun h ty => hcopy ty 0 (.inr h)
  have hrun := Lib.run_convert_string_bytes w 9 66 5 b ts tr tb
  go_enter Try.func76, Try.ntmps76
  by_cases hcn : grownCap w b.size 0 5 = n
  · have hcopy3 := hcopy2 hcn
    clear hcopy2
    rw [hcn] at hrun hcopy3 hcopy1 hconv hcap
    rw [Nat.sub_self, show b.size - n = 0 by omega] at hcopy3 hcopy1
    clear hcopy hcn
    go_wp2
    go_ret
    exact ⟨rfl, rfl⟩
  · clear hcopy hcopy2
    go_wp2
    go_ret
    exact ⟨rfl, rfl⟩
end Go.Proofs.Ytknapnnpmfhogaa