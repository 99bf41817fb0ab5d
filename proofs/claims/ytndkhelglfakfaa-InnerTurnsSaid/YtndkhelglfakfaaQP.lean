/-
  The library's functions that change rows, as inner calls them, field.over, and the range over two rows: the walks of their bodies.
-/
import Derived.Test.YtndkhelglfakfaaQ0
import Derived.Test.YtndkhelglfakfaaLite30
import Derived.Shelf.Spec.SlicesInsert
import Derived.Lib.SliceRun
namespace Go.Proofs.Ytndkhelglfakfaa
open Go Go.Lite

theorem argC0 {P : Program} {w : World} {tx e : TypeId} {A : Option Addr} {c sz : Nat} (ht : P.underlying tx = some (.slice e)) : ArgC P w tx (.slice A 0 c) sz 0 [] := by
  refine ⟨.inr ⟨e, ht⟩, fun w2 => rfl, by simp, fun n w2 hn _ => ?_, by simp⟩
  have : n = 0 := by omega
  subst this
  cases A <;> simp [Builtin.firstCells, loadCells, loadCellsFrom]
set_option maxHeartbeats 4000000 in
set_option maxRecDepth 100000 in
theorem insWS : InsW Try.prog 56 72 22 9 3 .i64 := by
  have hce : Try.prog.cellsOf 9 = 1 := by kernel_rfl
  have mixed : Try.prog.follows .mixedOrders = true := by kernel_rfl
  have t22 : Try.prog.underlying 22 = some (.slice 9) := by kernel_rfl
  refine ⟨t22, by kernel_rfl, by kernel_rfl, ?_, ?_, ?_, ?_⟩
  · intro w g g2 o m c2 lb cb us us2 hne hg hg2 hus
    rw [run_callFunc_extern (P := Try.prog) (f := 72) (fn := Try.f72) (by kernel_rfl) (by kernel_rfl) (by kernel_rfl) (by kernel_rfl) (e := Extern.SlicesOverlaps.overlaps #[22, 22] #[4]) (by kernel_rfl),
      Lib.run_overlaps_apart w 22 4 9 t22 1 (fun w => by kernel_rfl) ⟨g2, 0, none⟩ ⟨g, o, none⟩ m c2 lb cb hne 9 9 us2.size us.size (by simp [World.shape?, hg2]) (by simp [World.shape?, hg]) (by omega) (by simp [World.frozen?, hg2]) (by simp [World.frozen?, hg2])]
    rfl
  · intro g n c i g2 m c2 w w2 w3 k1 k2 hi hm hroom hc63 hov hcp1 hcp2
    rw [hce] at hcp1 hcp2
    simp only [Nat.mul_one] at hcp1 hcp2
    have hz1 : ¬ ((m : Int) = 0) := by omega
    have hz2 : ¬ ((i : Int) = (n : Int)) := by omega
    have hw1 : IntKind.i64.wrap ((i : Int) + (m : Int)) = (i : Int) + (m : Int) := by rw [IntKind.wrap_i64]; omega
    have hw2 : IntKind.i64.wrap ((n : Int) + (m : Int)) = (n : Int) + (m : Int) := by rw [IntKind.wrap_i64]; omega
    have hb1 : (0 : Int) ≤ (i : Int) + (m : Int) := by omega
    have hin : i ≤ n := by omega
    have htn : ((i : Int) + (m : Int)).toNat = i + m := by omega
    have hb2 : ¬ (c = i + m) := by omega
    have hb3 : (i : Int) ≤ (n : Int) + (m : Int) := by omega
    have hb4 : ¬ (c = i) := by omega
    go_enter Try.func56, Try.ntmps56
    go_wp2_with (simp only [hov])
    go_region_law_o (refine step_copy_runI rfl _ _ 22 22 rfl _ _ (by simp [Act.eval, Act.put]) (by simp [Act.eval, Act.put]) (hcp1 _ _ _) ?_)
    go_wp2_with (at_builtin; refine wpList_copy_runI _ rfl _ _ 22 22 rfl _ _ rfl rfl (hcp2 _ _) ?_)
    go_ret
    exact ⟨rfl, rfl⟩
  · intro A A2 n c m c2 w w1 r hm hnc hc63 hA0 hA1 hr
    have hz1 : ¬ ((m : Int) = 0) := by omega
    cases A with
    | none =>
      obtain ⟨rfl, rfl⟩ := hA0 rfl
      go_enter Try.func56, Try.ntmps56
      go_wp2_with (at_builtin; refine Lib.wpList_append_run _ rfl _ _ _ _ rfl _ _ rfl rfl _ _ (hr _) ?_)
      all_goals (go_ret; exact ⟨rfl, rfl⟩)
    | some a =>
      obtain ⟨g, rfl⟩ := hA1 a rfl
      go_enter Try.func56, Try.ntmps56
      go_wp2_with (at_builtin; refine Lib.wpList_append_run _ rfl _ _ _ _ rfl _ _ rfl rfl _ _ (hr _) ?_)
      all_goals (go_ret; exact ⟨rfl, rfl⟩)
  · intro g n c i g2 m c2 N G w w1 w2 w3 k1 k2 hi hm hnc hgr hlen hGn hG63 hap hcp1 hcp2
    rw [hce] at hcp1 hcp2
    simp only [Nat.mul_one] at hcp1 hcp2
    have hz1 : ¬ ((m : Int) = 0) := by omega
    have hz2 : ¬ ((i : Int) = (n : Int)) := by omega
    have hz3 : (c : Int) < (n : Int) + (m : Int) := by omega
    have hw1 : IntKind.i64.wrap ((i : Int) + (m : Int)) = (i : Int) + (m : Int) := by rw [IntKind.wrap_i64]; omega
    have hw2 : IntKind.i64.wrap ((n : Int) + (m : Int)) = (n : Int) + (m : Int) := by rw [IntKind.wrap_i64]; omega
    have hw3 : IntKind.i64.wrap ((n : Int) + (m : Int) - (i : Int)) = (n : Int) + (m : Int) - (i : Int) := by rw [IntKind.wrap_i64]; omega
    have hb1 : (0 : Int) ≤ (i : Int) + (m : Int) := by omega
    have hin : i ≤ n := by omega
    have htn : ((i : Int) + (m : Int)).toNat = i + m := by omega
    have hGi : ¬ (G = i) := by omega
    have hGim : ¬ (G = i + m) := by omega
    have hci : ¬ (c = i) := by omega
    have hb3 : (i : Int) ≤ (n : Int) := by omega
    go_enter Try.func56, Try.ntmps56
    go_wp2_with (first
      | (at_builtin; refine Lib.wpList_append_run _ rfl _ _ _ _ rfl _ _ rfl rfl _ _ (hap _) ?_)
      | (at_builtin; refine wpList_copy_runI _ rfl _ _ 22 22 rfl _ _ rfl rfl (hcp1 _ _) ?_))
    go_region_law_o (refine step_copy_runI rfl _ _ 22 22 rfl (.slice (some ⟨N, (i + m), none⟩) (n + m - (i + m)) (G - (i + m))) (.slice (some ⟨g, i, none⟩) (n - i) (c - i)) (by simp [Act.eval, Act.put]) (by simp [Act.eval, Act.put]) (hcp2 3 (G - (i + m)) (c - i)) ?_)
    go_wp2
    go_ret
    exact ⟨rfl, rfl⟩

set_option maxHeartbeats 4000000 in
set_option maxRecDepth 100000 in
theorem delWS : DelW Try.prog 60 22 9 := by
  have hce : Try.prog.cellsOf 9 = 1 := by kernel_rfl
  have mixed : Try.prog.follows .mixedOrders = true := by kernel_rfl
  have t22 : Try.prog.underlying 22 = some (.slice 9) := by kernel_rfl
  refine ⟨t22, by kernel_rfl, ?_, ?_, ?_⟩
  · intro i z hi hz
    have h1 : (Try.prog.info? 9).bind (·.zero) = some (.string ⟨#[]⟩) := by kernel_rfl
    rw [hi] at h1
    simp only [Option.bind_some, hz, Option.some.injEq] at h1
    subst h1
    intro v hv
    simp [Value.cells] at hv
    subst hv; rfl
  · intro A n c i w hin hnc hc63 hA0 hA1
    cases A with
    | none =>
      obtain ⟨rfl, rfl⟩ := hA0 rfl
      have : i = 0 := by omega
      subst this
      go_enter Try.func60, Try.ntmps60
      go_wp2
      all_goals (go_ret; exact ⟨rfl, rfl⟩)
    | some a =>
      obtain ⟨g, rfl⟩ := hA1 a rfl
      go_enter Try.func60, Try.ntmps60
      go_wp2
      all_goals (go_ret; exact ⟨rfl, rfl⟩)
  · intro g n c i jj w w2 w3 k hij hjn hnc hc63 hap hcl
    rw [hce] at hap hcl
    simp only [Nat.mul_one] at hap hcl
    have hz1 : ¬ ((i : Int) = (jj : Int)) := by omega
    have hin : i ≤ n := by omega
    have hij' : i ≤ jj := by omega
    have hb1 : ¬ (c = i) := by omega
    have hb2 : i + (n - jj) ≤ n := by omega
    have hb3 : ¬ (c = i + (n - jj)) := by omega
    have hic : i ≤ c := by omega
    have hjc' : jj ≤ c := by omega
    have hbc : i + (n - jj) ≤ c := by omega
    have hnij : (i : Int) + ((n - jj : Nat) : Int) ≤ (n : Int) := by omega
    by_cases hjc : c = jj
    · have hn : n = jj := by omega
      subst hn
      subst hjc
      have hap' := fun ty => hap ty (some ⟨g, 0, none⟩) 0 (fun h => absurd h (by omega))
      simp only [Nat.sub_self, Nat.add_zero] at hap' hcl ⊢
      go_enter Try.func60, Try.ntmps60
      go_wp2
      go_region_law_o (refine step_append_run rfl _ _ 22 22 rfl (.slice (some ⟨g, 0, none⟩) i c) (.slice (some ⟨g, 0, none⟩) 0 0) (by simp [Act.eval, Act.put]) (by simp [Act.eval, Act.put]) (hap' 22) ?_)
      go_wp2
      go_ret
      exact ⟨rfl, rfl⟩
    · go_enter Try.func60, Try.ntmps60
      go_wp2
      go_region_law_o (refine step_append_run rfl _ _ 22 22 rfl (.slice (some ⟨g, 0, none⟩) i c) (.slice (some ⟨g, jj, none⟩) (n - jj) (c - jj)) (by simp [Act.eval, Act.put]) (by simp [Act.eval, Act.put]) (hap 22 (some ⟨g, jj, none⟩) (c - jj) (fun _ => rfl)) ?_)
      go_wp2
      go_ret
      exact ⟨rfl, rfl⟩

set_option maxHeartbeats 4000000 in
set_option maxRecDepth 100000 in
theorem cloneWS : CloneW Try.prog 57 22 9 := by
  have hce : Try.prog.cellsOf 9 = 1 := by kernel_rfl
  have mixed : Try.prog.follows .mixedOrders = true := by kernel_rfl
  have t22 : Try.prog.underlying 22 = some (.slice 9) := by kernel_rfl
  have q22 : ∀ (w : World) (a : Option Addr) (n c n' c' : Nat), (binOp .eql 22 (.slice a n c) (.slice none n' c')).run Try.prog w = .ok (.bool a.isNone) w := fun w a n c n' c' => Lib.run_eql_slice_nil w _ _ a n c n' c' t22
  refine ⟨t22, by kernel_rfl, ?_, ?_, ?_⟩
  · intro n c w
    go_enter Try.func57, Try.ntmps57
    go_wp2
    go_ret
    exact ⟨rfl, rfl⟩
  · intro g b n c w w2 r hr
    go_enter Try.func57, Try.ntmps57
    go_wp2_with (at_builtin; refine Lib.wpList_append_run _ rfl _ _ _ _ rfl _ _ rfl rfl _ _ (hr _) ?_)
    go_ret
    exact ⟨rfl, rfl⟩
  · intro a c w
    obtain ⟨ab, ao, asp⟩ := a
    have hr : ∀ (ty : TypeId) (w : World), (Builtin.append_ #[22, 22] ty #[.slice (some ⟨w.heap.size, 0, none⟩) 0 0, .slice (some ⟨ab, ao, asp⟩) 0 c]).run Try.prog (w.alloc (.cells #[] 9)) = .ok (.slice (some ⟨w.heap.size, 0, none⟩) 0 0) (w.alloc (.cells #[] 9)) := fun ty w => run_append_no t22 (by rw [hce]; decide) (argC0 t22) (Nat.le_refl _)
    go_enter Try.func57, Try.ntmps57
    go_wp2_with (at_builtin; refine Lib.wpList_append_run _ rfl _ _ _ _ rfl _ _ rfl rfl _ _ (hr _ _) ?_)
    go_ret
    exact ⟨rfl, rfl⟩

set_option maxHeartbeats 4000000 in
set_option maxRecDepth 100000 in
theorem insWI : InsW Try.prog 58 74 23 3 3 .i64 := by
  have hce : Try.prog.cellsOf 3 = 1 := by kernel_rfl
  have mixed : Try.prog.follows .mixedOrders = true := by kernel_rfl
  have t22 : Try.prog.underlying 23 = some (.slice 3) := by kernel_rfl
  refine ⟨t22, by kernel_rfl, by kernel_rfl, ?_, ?_, ?_, ?_⟩
  · intro w g g2 o m c2 lb cb us us2 hne hg hg2 hus
    rw [run_callFunc_extern (P := Try.prog) (f := 74) (fn := Try.f74) (by kernel_rfl) (by kernel_rfl) (by kernel_rfl) (by kernel_rfl) (e := Extern.SlicesOverlaps.overlaps #[23, 23] #[4]) (by kernel_rfl),
      Lib.run_overlaps_apart w 23 4 3 t22 1 (fun w => by kernel_rfl) ⟨g2, 0, none⟩ ⟨g, o, none⟩ m c2 lb cb hne 3 3 us2.size us.size (by simp [World.shape?, hg2]) (by simp [World.shape?, hg]) (by omega) (by simp [World.frozen?, hg2]) (by simp [World.frozen?, hg2])]
    rfl
  · intro g n c i g2 m c2 w w2 w3 k1 k2 hi hm hroom hc63 hov hcp1 hcp2
    rw [hce] at hcp1 hcp2
    simp only [Nat.mul_one] at hcp1 hcp2
    have hz1 : ¬ ((m : Int) = 0) := by omega
    have hz2 : ¬ ((i : Int) = (n : Int)) := by omega
    have hw1 : IntKind.i64.wrap ((i : Int) + (m : Int)) = (i : Int) + (m : Int) := by rw [IntKind.wrap_i64]; omega
    have hw2 : IntKind.i64.wrap ((n : Int) + (m : Int)) = (n : Int) + (m : Int) := by rw [IntKind.wrap_i64]; omega
    have hb1 : (0 : Int) ≤ (i : Int) + (m : Int) := by omega
    have hin : i ≤ n := by omega
    have htn : ((i : Int) + (m : Int)).toNat = i + m := by omega
    have hb2 : ¬ (c = i + m) := by omega
    have hb3 : (i : Int) ≤ (n : Int) + (m : Int) := by omega
    have hb4 : ¬ (c = i) := by omega
    go_enter Try.func58, Try.ntmps58
    go_wp2_with (simp only [hov])
    go_region_law_o (refine step_copy_runI rfl _ _ 23 23 rfl _ _ (by simp [Act.eval, Act.put]) (by simp [Act.eval, Act.put]) (hcp1 _ _ _) ?_)
    go_wp2_with (at_builtin; refine wpList_copy_runI _ rfl _ _ 23 23 rfl _ _ rfl rfl (hcp2 _ _) ?_)
    go_ret
    exact ⟨rfl, rfl⟩
  · intro A A2 n c m c2 w w1 r hm hnc hc63 hA0 hA1 hr
    have hz1 : ¬ ((m : Int) = 0) := by omega
    cases A with
    | none =>
      obtain ⟨rfl, rfl⟩ := hA0 rfl
      go_enter Try.func58, Try.ntmps58
      go_wp2_with (at_builtin; refine Lib.wpList_append_run _ rfl _ _ _ _ rfl _ _ rfl rfl _ _ (hr _) ?_)
      all_goals (go_ret; exact ⟨rfl, rfl⟩)
    | some a =>
      obtain ⟨g, rfl⟩ := hA1 a rfl
      go_enter Try.func58, Try.ntmps58
      go_wp2_with (at_builtin; refine Lib.wpList_append_run _ rfl _ _ _ _ rfl _ _ rfl rfl _ _ (hr _) ?_)
      all_goals (go_ret; exact ⟨rfl, rfl⟩)
  · intro g n c i g2 m c2 N G w w1 w2 w3 k1 k2 hi hm hnc hgr hlen hGn hG63 hap hcp1 hcp2
    rw [hce] at hcp1 hcp2
    simp only [Nat.mul_one] at hcp1 hcp2
    have hz1 : ¬ ((m : Int) = 0) := by omega
    have hz2 : ¬ ((i : Int) = (n : Int)) := by omega
    have hz3 : (c : Int) < (n : Int) + (m : Int) := by omega
    have hw1 : IntKind.i64.wrap ((i : Int) + (m : Int)) = (i : Int) + (m : Int) := by rw [IntKind.wrap_i64]; omega
    have hw2 : IntKind.i64.wrap ((n : Int) + (m : Int)) = (n : Int) + (m : Int) := by rw [IntKind.wrap_i64]; omega
    have hw3 : IntKind.i64.wrap ((n : Int) + (m : Int) - (i : Int)) = (n : Int) + (m : Int) - (i : Int) := by rw [IntKind.wrap_i64]; omega
    have hb1 : (0 : Int) ≤ (i : Int) + (m : Int) := by omega
    have hin : i ≤ n := by omega
    have htn : ((i : Int) + (m : Int)).toNat = i + m := by omega
    have hGi : ¬ (G = i) := by omega
    have hGim : ¬ (G = i + m) := by omega
    have hci : ¬ (c = i) := by omega
    have hb3 : (i : Int) ≤ (n : Int) := by omega
    go_enter Try.func58, Try.ntmps58
    go_wp2_with (first
      | (at_builtin; refine Lib.wpList_append_run _ rfl _ _ _ _ rfl _ _ rfl rfl _ _ (hap _) ?_)
      | (at_builtin; refine wpList_copy_runI _ rfl _ _ 23 23 rfl _ _ rfl rfl (hcp1 _ _) ?_))
    go_region_law_o (refine step_copy_runI rfl _ _ 23 23 rfl (.slice (some ⟨N, (i + m), none⟩) (n + m - (i + m)) (G - (i + m))) (.slice (some ⟨g, i, none⟩) (n - i) (c - i)) (by simp [Act.eval, Act.put]) (by simp [Act.eval, Act.put]) (hcp2 3 (G - (i + m)) (c - i)) ?_)
    go_wp2
    go_ret
    exact ⟨rfl, rfl⟩

set_option maxHeartbeats 4000000 in
set_option maxRecDepth 100000 in
theorem delWI : DelW Try.prog 61 23 3 := by
  have hce : Try.prog.cellsOf 3 = 1 := by kernel_rfl
  have mixed : Try.prog.follows .mixedOrders = true := by kernel_rfl
  have t22 : Try.prog.underlying 23 = some (.slice 3) := by kernel_rfl
  refine ⟨t22, by kernel_rfl, ?_, ?_, ?_⟩
  · intro i z hi hz
    have h1 : (Try.prog.info? 3).bind (·.zero) = some (.int .i64 0) := by kernel_rfl
    rw [hi] at h1
    simp only [Option.bind_some, hz, Option.some.injEq] at h1
    subst h1
    intro v hv
    simp [Value.cells] at hv
    subst hv; rfl
  · intro A n c i w hin hnc hc63 hA0 hA1
    cases A with
    | none =>
      obtain ⟨rfl, rfl⟩ := hA0 rfl
      have : i = 0 := by omega
      subst this
      go_enter Try.func61, Try.ntmps61
      go_wp2
      all_goals (go_ret; exact ⟨rfl, rfl⟩)
    | some a =>
      obtain ⟨g, rfl⟩ := hA1 a rfl
      go_enter Try.func61, Try.ntmps61
      go_wp2
      all_goals (go_ret; exact ⟨rfl, rfl⟩)
  · intro g n c i jj w w2 w3 k hij hjn hnc hc63 hap hcl
    rw [hce] at hap hcl
    simp only [Nat.mul_one] at hap hcl
    have hz1 : ¬ ((i : Int) = (jj : Int)) := by omega
    have hin : i ≤ n := by omega
    have hij' : i ≤ jj := by omega
    have hb1 : ¬ (c = i) := by omega
    have hb2 : i + (n - jj) ≤ n := by omega
    have hb3 : ¬ (c = i + (n - jj)) := by omega
    have hic : i ≤ c := by omega
    have hjc' : jj ≤ c := by omega
    have hbc : i + (n - jj) ≤ c := by omega
    have hnij : (i : Int) + ((n - jj : Nat) : Int) ≤ (n : Int) := by omega
    by_cases hjc : c = jj
    · have hn : n = jj := by omega
      subst hn
      subst hjc
      have hap' := fun ty => hap ty (some ⟨g, 0, none⟩) 0 (fun h => absurd h (by omega))
      simp only [Nat.sub_self, Nat.add_zero] at hap' hcl ⊢
      go_enter Try.func61, Try.ntmps61
      go_wp2
      go_region_law_o (refine step_append_run rfl _ _ 23 23 rfl (.slice (some ⟨g, 0, none⟩) i c) (.slice (some ⟨g, 0, none⟩) 0 0) (by simp [Act.eval, Act.put]) (by simp [Act.eval, Act.put]) (hap' 23) ?_)
      go_wp2
      go_ret
      exact ⟨rfl, rfl⟩
    · go_enter Try.func61, Try.ntmps61
      go_wp2
      go_region_law_o (refine step_append_run rfl _ _ 23 23 rfl (.slice (some ⟨g, 0, none⟩) i c) (.slice (some ⟨g, jj, none⟩) (n - jj) (c - jj)) (by simp [Act.eval, Act.put]) (by simp [Act.eval, Act.put]) (hap 22 (some ⟨g, jj, none⟩) (c - jj) (fun _ => rfl)) ?_)
      go_wp2
      go_ret
      exact ⟨rfl, rfl⟩

set_option maxHeartbeats 4000000 in
set_option maxRecDepth 100000 in
theorem cloneWI : CloneW Try.prog 59 23 3 := by
  have hce : Try.prog.cellsOf 3 = 1 := by kernel_rfl
  have mixed : Try.prog.follows .mixedOrders = true := by kernel_rfl
  have t22 : Try.prog.underlying 23 = some (.slice 3) := by kernel_rfl
  have q22 : ∀ (w : World) (a : Option Addr) (n c n' c' : Nat), (binOp .eql 23 (.slice a n c) (.slice none n' c')).run Try.prog w = .ok (.bool a.isNone) w := fun w a n c n' c' => Lib.run_eql_slice_nil w _ _ a n c n' c' t22
  refine ⟨t22, by kernel_rfl, ?_, ?_, ?_⟩
  · intro n c w
    go_enter Try.func59, Try.ntmps59
    go_wp2
    go_ret
    exact ⟨rfl, rfl⟩
  · intro g b n c w w2 r hr
    go_enter Try.func59, Try.ntmps59
    go_wp2_with (at_builtin; refine Lib.wpList_append_run _ rfl _ _ _ _ rfl _ _ rfl rfl _ _ (hr _) ?_)
    go_ret
    exact ⟨rfl, rfl⟩
  · intro a c w
    obtain ⟨ab, ao, asp⟩ := a
    have hr : ∀ (ty : TypeId) (w : World), (Builtin.append_ #[23, 23] ty #[.slice (some ⟨w.heap.size, 0, none⟩) 0 0, .slice (some ⟨ab, ao, asp⟩) 0 c]).run Try.prog (w.alloc (.cells #[] 3)) = .ok (.slice (some ⟨w.heap.size, 0, none⟩) 0 0) (w.alloc (.cells #[] 3)) := fun ty w => run_append_no t22 (by rw [hce]; decide) (argC0 t22) (Nat.le_refl _)
    go_enter Try.func59, Try.ntmps59
    go_wp2_with (at_builtin; refine Lib.wpList_append_run _ rfl _ _ _ _ rfl _ _ rfl rfl _ _ (hr _ _) ?_)
    go_ret
    exact ⟨rfl, rfl⟩


set_option maxHeartbeats 4000000 in
set_option maxRecDepth 100000 in
theorem overW : OverW Try.prog 68 9 81 5 := by
  have mixed : Try.prog.follows .mixedOrders = true := by kernel_rfl
  have ts : Try.prog.underlying 9 = some .string := by kernel_rfl
  have tr : Try.prog.underlying 81 = some (.slice 5) := by kernel_rfl
  have tb : Try.prog.underlying 5 = some (.int .u8) := by kernel_rfl
  refine ⟨ts, tr, tb, by kernel_rfl, ?_⟩
  intro b n L c A w w2 r hn hcap hcopy hconv
  have hcopy1 := fun ty => hcopy ty n (.inl rfl)
  have hcopy2 : grownCap w b.size 0 5 = n → ∀ ty, _ := fun h ty => hcopy ty 0 (.inr h)
  have hrun := Lib.run_convert_string_bytes w 9 81 5 b ts tr tb
  go_enter Try.func68, Try.ntmps68
  by_cases hcn : grownCap w b.size 0 5 = n
  · have hcopy3 := hcopy2 hcn
    clear hcopy2
    rw [hcn] at hrun hcopy3 hcopy1 hconv hcap
    rw [Nat.sub_self, show b.size - n = 0 by omega] at hcopy3 hcopy1
    clear hcopy hcn
    go_wp2
    go_ret
    exact ⟨rfl, rfl⟩
  · clear hcopy hcopy2
    go_wp2
    go_ret
    exact ⟨rfl, rfl⟩
end Go.Proofs.Ytndkhelglfakfaa
