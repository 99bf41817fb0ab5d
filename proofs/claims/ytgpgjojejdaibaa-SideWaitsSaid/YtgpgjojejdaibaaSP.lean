/-
  The library's functions that change rows, as side calls them: the walks of their bodies.
-/
import Derived.Test.YtgpgjojejdaibaaS0
import Derived.Shelf.Spec.SlicesInsert
import Derived.Lib.SliceRun
namespace Go.Proofs.Ytgpgjojejdaibaa
open Go Go.Lite

set_option maxHeartbeats 4000000 in
set_option maxRecDepth 100000 in
theorem insW : InsW Try.prog 51 54 22 66 3 .i64 := by
  have hce : Try.prog.cellsOf 66 = 2 := by kernel_rfl
  have mixed : Try.prog.follows .mixedOrders = true := by kernel_rfl
  have t22 : Try.prog.underlying 22 = some (.slice 66) := by kernel_rfl
  refine ⟨t22, by kernel_rfl, by kernel_rfl, ?_, ?_, ?_, ?_⟩
  · intro w g g2 o m c2 lb cb us us2 hne hg hg2 hus
    rw [run_callFunc_extern (P := Try.prog) (f := 54) (fn := Try.f54) (by kernel_rfl) (by kernel_rfl) (by kernel_rfl) (by kernel_rfl) (e := Extern.SlicesOverlaps.overlaps #[22, 22] #[4]) (by kernel_rfl),
      Lib.run_overlaps_apart w 22 4 66 t22 2 (fun w => by kernel_rfl) ⟨g2, 0, none⟩ ⟨g, o, none⟩ m c2 lb cb hne 66 66 us2.size us.size (by simp [World.shape?, hg2]) (by simp [World.shape?, hg]) (by omega) (by simp [World.frozen?, hg2]) (by simp [World.frozen?, hg2])]
    rfl
  · intro g n c i g2 m c2 w w2 w3 k1 k2 hi hm hroom hc63 hov hcp1 hcp2
    rw [hce] at hcp1 hcp2
    have hz1 : ¬ ((m : Int) = 0) := by omega
    have hz2 : ¬ ((i : Int) = (n : Int)) := by omega
    have hw1 : IntKind.i64.wrap ((i : Int) + (m : Int)) = (i : Int) + (m : Int) := by rw [IntKind.wrap_i64]; omega
    have hw2 : IntKind.i64.wrap ((n : Int) + (m : Int)) = (n : Int) + (m : Int) := by rw [IntKind.wrap_i64]; omega
    have hb1 : (0 : Int) ≤ (i : Int) + (m : Int) := by omega
    have hin : i ≤ n := by omega
    have htn : ((i : Int) + (m : Int)).toNat = i + m := by omega
    have hb2 : ¬ (c = i + m) := by omega
    have hb3 : (i : Int) ≤ (n : Int) + (m : Int) := by omega
    have hb4 : ¬ (c = i) := by omega
    go_enter Try.func51, Try.ntmps51
    go_wp2_with (simp only [hov])
    go_region_law_o (refine step_copy_runI rfl _ _ 22 22 rfl _ _ (by simp [Act.eval, Act.put]) (by simp [Act.eval, Act.put]) (hcp1 _ _ _) ?_)
    go_wp2_with (at_builtin; refine wpList_copy_runI _ rfl _ _ 22 22 rfl _ _ rfl rfl (hcp2 _ _) ?_)
    go_ret
    exact ⟨rfl, rfl⟩
  · intro A A2 n c m c2 w w1 r hm hnc hc63 hA0 hA1 hr
    have hz1 : ¬ ((m : Int) = 0) := by omega
    cases A with
    | none =>
      obtain ⟨rfl, rfl⟩ := hA0 rfl
      go_enter Try.func51, Try.ntmps51
      go_wp2_with (at_builtin; refine Lib.wpList_append_run _ rfl _ _ _ _ rfl _ _ rfl rfl _ _ (hr _) ?_)
      all_goals (go_ret; exact ⟨rfl, rfl⟩)
    | some a =>
      obtain ⟨g, rfl⟩ := hA1 a rfl
      go_enter Try.func51, Try.ntmps51
      go_wp2_with (at_builtin; refine Lib.wpList_append_run _ rfl _ _ _ _ rfl _ _ rfl rfl _ _ (hr _) ?_)
      all_goals (go_ret; exact ⟨rfl, rfl⟩)
  · intro g n c i g2 m c2 N G w w1 w2 w3 k1 k2 hi hm hnc hgr hlen hGn hG63 hap hcp1 hcp2
    rw [hce] at hcp1 hcp2
    have hz1 : ¬ ((m : Int) = 0) := by omega
    have hz2 : ¬ ((i : Int) = (n : Int)) := by omega
    have hz3 : (c : Int) < (n : Int) + (m : Int) := by omega
    have hw1 : IntKind.i64.wrap ((i : Int) + (m : Int)) = (i : Int) + (m : Int) := by rw [IntKind.wrap_i64]; omega
    have hw2 : IntKind.i64.wrap ((n : Int) + (m : Int)) = (n : Int) + (m : Int) := by rw [IntKind.wrap_i64]; omega
    have hw3 : IntKind.i64.wrap ((n : Int) + (m : Int) - (i : Int)) = (n : Int) + (m : Int) - (i : Int) := by rw [IntKind.wrap_i64]; omega
    have hb1 : (0 : Int) ≤ (i : Int) + (m : Int) := by omega
    have hin : i ≤ n := by omega
    have htn : ((i : Int) + (m : Int)).toNat = i + m := by omega
    have hGi : ¬ (G = i) := by omega
    have hGim : ¬ (G = i + m) := by omega
    have hci : ¬ (c = i) := by omega
    have hb3 : (i : Int) ≤ (n : Int) := by omega
    go_enter Try.func51, Try.ntmps51
    go_wp2_with (first
      | (at_builtin; refine Lib.wpList_append_run _ rfl _ _ _ _ rfl _ _ rfl rfl _ _ (hap _) ?_)
      | (at_builtin; refine wpList_copy_runI _ rfl _ _ 22 22 rfl _ _ rfl rfl (hcp1 _ _) ?_))
    go_region_law_o (refine step_copy_runI rfl _ _ 22 22 rfl (.slice (some ⟨N, (i + m) * 2, none⟩) (n + m - (i + m)) (G - (i + m))) (.slice (some ⟨g, i * 2, none⟩) (n - i) (c - i)) (by simp [Act.eval, Act.put]) (by simp [Act.eval, Act.put]) (hcp2 3 (G - (i + m)) (c - i)) ?_)
    go_wp2
    go_ret
    exact ⟨rfl, rfl⟩

set_option maxHeartbeats 4000000 in
set_option maxRecDepth 100000 in
theorem delW : DelW Try.prog 40 22 66 := by
  have hce : Try.prog.cellsOf 66 = 2 := by kernel_rfl
  have mixed : Try.prog.follows .mixedOrders = true := by kernel_rfl
  have t22 : Try.prog.underlying 22 = some (.slice 66) := by kernel_rfl
  refine ⟨t22, by kernel_rfl, ?_, ?_, ?_⟩
  · intro i z hi hz
    have h1 : (Try.prog.info? 66).bind (·.zero) = some (.agg #[.string ⟨#[]⟩, .int .i64 0]) := by kernel_rfl
    rw [hi] at h1
    simp only [Option.bind_some, hz, Option.some.injEq] at h1
    subst h1
    intro v hv
    simp [Value.cells] at hv
    rcases hv with rfl | rfl <;> rfl
  · intro A n c i w hin hnc hc63 hA0 hA1
    cases A with
    | none =>
      obtain ⟨rfl, rfl⟩ := hA0 rfl
      have : i = 0 := by omega
      subst this
      go_enter Try.func40, Try.ntmps40
      go_wp2
      all_goals (go_ret; exact ⟨rfl, rfl⟩)
    | some a =>
      obtain ⟨g, rfl⟩ := hA1 a rfl
      go_enter Try.func40, Try.ntmps40
      go_wp2
      all_goals (go_ret; exact ⟨rfl, rfl⟩)
  · intro g n c i jj w w2 w3 k hij hjn hnc hc63 hap hcl
    rw [hce] at hap hcl
    have hz1 : ¬ ((i : Int) = (jj : Int)) := by omega
    have hin : i ≤ n := by omega
    have hij' : i ≤ jj := by omega
    have hb1 : ¬ (c = i) := by omega
    have hb2 : i + (n - jj) ≤ n := by omega
    have hb3 : ¬ (c = i + (n - jj)) := by omega
    have hic : i ≤ c := by omega
    have hjc' : jj ≤ c := by omega
    have hbc : i + (n - jj) ≤ c := by omega
    have hnij : (i : Int) + ((n - jj : Nat) : Int) ≤ (n : Int) := by omega
    by_cases hjc : c = jj
    · have hn : n = jj := by omega
      subst hn
      subst hjc
      have hap' := fun ty => hap ty (some ⟨g, 0, none⟩) 0 (fun h => absurd h (by omega))
      simp only [Nat.sub_self, Nat.add_zero] at hap' hcl ⊢
      go_enter Try.func40, Try.ntmps40
      go_wp2
      go_region_law_o (refine step_append_run rfl _ _ 22 22 rfl (.slice (some ⟨g, 0, none⟩) i c) (.slice (some ⟨g, 0, none⟩) 0 0) (by simp [Act.eval, Act.put]) (by simp [Act.eval, Act.put]) (hap' 22) ?_)
      go_wp2
      go_ret
      exact ⟨rfl, rfl⟩
    · go_enter Try.func40, Try.ntmps40
      go_wp2
      go_region_law_o (refine step_append_run rfl _ _ 22 22 rfl (.slice (some ⟨g, 0, none⟩) i c) (.slice (some ⟨g, jj * 2, none⟩) (n - jj) (c - jj)) (by simp [Act.eval, Act.put]) (by simp [Act.eval, Act.put]) (hap 22 (some ⟨g, jj * 2, none⟩) (c - jj) (fun _ => rfl)) ?_)
      go_wp2
      go_ret
      exact ⟨rfl, rfl⟩

/-! ### Clone -/

set_option maxHeartbeats 4000000 in
set_option maxRecDepth 100000 in
theorem cloneW : CloneW Try.prog 32 22 66 := by
  have hce : Try.prog.cellsOf 66 = 2 := by kernel_rfl
  have mixed : Try.prog.follows .mixedOrders = true := by kernel_rfl
  have t22 : Try.prog.underlying 22 = some (.slice 66) := by kernel_rfl
  have q22 : ∀ (w : World) (a : Option Addr) (n c n' c' : Nat), (binOp .eql 22 (.slice a n c) (.slice none n' c')).run Try.prog w = .ok (.bool a.isNone) w := fun w a n c n' c' => Lib.run_eql_slice_nil w _ _ a n c n' c' t22
  refine ⟨t22, by kernel_rfl, ?_, ?_, ?_⟩
  · intro n c w
    go_enter Try.func32, Try.ntmps32
    go_wp2
    go_ret
    exact ⟨rfl, rfl⟩
  · intro g b n c w w2 r hr
    go_enter Try.func32, Try.ntmps32
    go_wp2_with (at_builtin; refine Lib.wpList_append_run _ rfl _ _ _ _ rfl _ _ rfl rfl _ _ (hr _) ?_)
    go_ret
    exact ⟨rfl, rfl⟩
  · intro a c w
    obtain ⟨ab, ao, asp⟩ := a
    have hr : ∀ (ty : TypeId) (w : World), (Builtin.append_ #[22, 22] ty #[.slice (some ⟨w.heap.size, 0, none⟩) 0 0, .slice (some ⟨ab, ao, asp⟩) 0 c]).run Try.prog (w.alloc (.cells #[] 66)) = .ok (.slice (some ⟨w.heap.size, 0, none⟩) 0 0) (w.alloc (.cells #[] 66)) := fun ty w => run_append_no t22 (by rw [hce]; decide) (Nat.le_refl _)
    go_enter Try.func32, Try.ntmps32
    go_wp2_with (at_builtin; refine Lib.wpList_append_run _ rfl _ _ _ _ rfl _ _ rfl rfl _ _ (hr _ _) ?_)
    go_ret
    exact ⟨rfl, rfl⟩

set_option maxHeartbeats 4000000 in
set_option maxRecDepth 100000 in
theorem cloneW2 : CloneW Try.prog 43 23 41 := by
  have hce : Try.prog.cellsOf 41 = 3 := by kernel_rfl
  have mixed : Try.prog.follows .mixedOrders = true := by kernel_rfl
  have t22 : Try.prog.underlying 23 = some (.slice 41) := by kernel_rfl
  have q22 : ∀ (w : World) (a : Option Addr) (n c n' c' : Nat), (binOp .eql 23 (.slice a n c) (.slice none n' c')).run Try.prog w = .ok (.bool a.isNone) w := fun w a n c n' c' => Lib.run_eql_slice_nil w _ _ a n c n' c' t22
  refine ⟨t22, by kernel_rfl, ?_, ?_, ?_⟩
  · intro n c w
    go_enter Try.func43, Try.ntmps43
    go_wp2
    go_ret
    exact ⟨rfl, rfl⟩
  · intro g b n c w w2 r hr
    go_enter Try.func43, Try.ntmps43
    go_wp2_with (at_builtin; refine Lib.wpList_append_run _ rfl _ _ _ _ rfl _ _ rfl rfl _ _ (hr _) ?_)
    go_ret
    exact ⟨rfl, rfl⟩
  · intro a c w
    obtain ⟨ab, ao, asp⟩ := a
    have hr : ∀ (ty : TypeId) (w : World), (Builtin.append_ #[23, 23] ty #[.slice (some ⟨w.heap.size, 0, none⟩) 0 0, .slice (some ⟨ab, ao, asp⟩) 0 c]).run Try.prog (w.alloc (.cells #[] 41)) = .ok (.slice (some ⟨w.heap.size, 0, none⟩) 0 0) (w.alloc (.cells #[] 41)) := fun ty w => run_append_no t22 (by rw [hce]; decide) (Nat.le_refl _)
    go_enter Try.func43, Try.ntmps43
    go_wp2_with (at_builtin; refine Lib.wpList_append_run _ rfl _ _ _ _ rfl _ _ rfl rfl _ _ (hr _ _) ?_)
    go_ret
    exact ⟨rfl, rfl⟩


theorem hok : CfgOK scfg := by
  have hce : Try.prog.cellsOf 66 = 2 := by kernel_rfl
  have hce2 : Try.prog.cellsOf 41 = 3 := by kernel_rfl
  refine ⟨by kernel_rfl, ?_, ?_⟩
  · intro f g h
    have h : sppr f = some g := h
    unfold sppr at h
    split at h
    · rename_i e
      subst e
      cases h
      have := clone_ok cloneW
      rw [hce] at this
      exact this
    · split at h
      · rename_i e
        subst e
        cases h
        have := clone_ok cloneW2
        rw [hce2] at this
        exact this
      · cases h
  · intro f g h
    have h : sipr f = some g := h
    unfold sipr at h
    split at h
    · rename_i e
      subst e
      cases h
      have := ins_ok insW
      rw [hce] at this
      exact this
    · split at h
      · rename_i e
        subst e
        cases h
        exact del_ok delW
      · cases h

end Go.Proofs.Ytgpgjojejdaibaa
