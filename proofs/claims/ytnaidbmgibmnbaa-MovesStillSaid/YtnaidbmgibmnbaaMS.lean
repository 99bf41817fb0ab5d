/-
  What is known by a law of its own in moves is so.
-/
import Derived.Test.YtnaidbmgibmnbaaM5
import Derived.Test.YtnaidbmgibmnbaaML
import Derived.Test.YtnaidbmgibmnbaaMR
import Derived.Test.YtnaidbmgibmnbaaLite26
import Derived.Lib.SliceRun
import Derived.Shelf.Abstract
namespace Go.Proofs.Ytnaidbmgibmnbaa
open Go Go.Lite

theorem argC0 {P : Program} {w : World} {tx e : TypeId} {A : Option Addr} {c sz : Nat} (ht : P.underlying tx = some (.slice e)) : ArgC P w tx (.slice A 0 c) sz 0 [] := by
  refine ⟨.inr ⟨e, ht⟩, fun w2 => rfl, by simp, fun n w2 hn _ => ?_, by simp⟩
  have : n = 0 := by omega
  subst this
  cases A <;> simp [Builtin.firstCells, loadCells, loadCellsFrom]
set_option maxHeartbeats 4000000 in
set_option maxRecDepth 100000 in
theorem cloneWI : CloneW Try.prog 26 22 3 := by
  have hce : Try.prog.cellsOf 3 = 1 := by kernel_rfl
  have mixed : Try.prog.follows .mixedOrders = true := by kernel_rfl
  have t22 : Try.prog.underlying 22 = some (.slice 3) := by kernel_rfl
  have q22 : ∀ (w : World) (a : Option Addr) (n c n' c' : Nat), (binOp .eql 22 (.slice a n c) (.slice none n' c')).run Try.prog w = .ok (.bool a.isNone) w := fun w a n c n' c' => Lib.run_eql_slice_nil w _ _ a n c n' c' t22
  refine ⟨t22, by kernel_rfl, ?_, ?_, ?_⟩
  · intro n c w
    go_enter Try.func26, Try.ntmps26
    go_wp2
    go_ret
    exact ⟨rfl, rfl⟩
  · intro g b n c w w2 r hr
    go_enter Try.func26, Try.ntmps26
    go_wp2_with (at_builtin; refine Lib.wpList_append_run _ rfl _ _ _ _ rfl _ _ rfl rfl _ _ (hr _) ?_)
    go_ret
    exact ⟨rfl, rfl⟩
  · intro a c w
    obtain ⟨ab, ao, asp⟩ := a
    have hr : ∀ (ty : TypeId) (w : World), (Builtin.append_ #[22, 22] ty #[.slice (some ⟨w.heap.size, 0, none⟩) 0 0, .slice (some ⟨ab, ao, asp⟩) 0 c]).run Try.prog (w.alloc (.cells #[] 3)) = .ok (.slice (some ⟨w.heap.size, 0, none⟩) 0 0) (w.alloc (.cells #[] 3)) := fun ty w => run_append_no t22 (by rw [hce]; decide) (argC0 t22) (Nat.le_refl _)
    go_enter Try.func26, Try.ntmps26
    go_wp2_with (at_builtin; refine Lib.wpList_append_run _ rfl _ _ _ _ rfl _ _ rfl rfl _ _ (hr _ _) ?_)
    go_ret
    exact ⟨rfl, rfl⟩


theorem row_read {P : Program} {Z : Zs} {w : World} {a : List V} {u : Value} (h : VR Z w j0 (.sl a) u) (h1 : a.all V.one = true) :
    ∃ (A : Option Addr) (c : Nat) (fx : Nat → Value), u = .slice A a.length c ∧ ∀ k x, a[k]? = some x → VR Z w j0 x (fx k) ∧ ∃ g b, A = some ⟨g, b, none⟩ ∧ Z g (b + k) ∧ w.cell? ⟨g, b + k, none⟩ = some (fx k) := by
  rcases h.slInv with ⟨A, c, rfl, rfl⟩ | ⟨g, b, c, sz, rfl, _, hsz, hh⟩
  · exact ⟨A, c, fun _ => default, rfl, fun k x hk => by simp at hk⟩
  · refine ⟨some ⟨g, b, none⟩, c, fun k => (w.cell? ⟨g, b + k, none⟩).getD default, rfl, fun k x hk => ?_⟩
    have hone : x.one = true := List.all_eq_true.1 h1 x (List.mem_of_getElem? hk)
    obtain ⟨l1, l2, l3⟩ := hh k x hk
    rw [cells_one hone] at l1 l3
    have : sz = 1 := l1.symm
    subst this
    obtain ⟨_, u, hu, hv⟩ := l3 0 x rfl
    rw [Nat.mul_one, Nat.add_zero] at hu
    have hz := l2 0 (by decide)
    rw [Nat.mul_one, Nat.add_zero] at hz
    show VR Z w j0 x ((w.cell? ⟨g, b + k, none⟩).getD default) ∧ _
    rw [hu]
    refine ⟨hv, g, b, rfl, hz, ?_⟩
    show w.cell? ⟨g, b + k, none⟩ = some ((w.cell? ⟨g, b + k, none⟩).getD default)
    rw [hu]
    rfl


theorem seq_ok : SeqOK Try.prog mseq := by
  intro f ts h xs rounds hf hr Z w us hzin ha
  unfold mseq at hf
  split at hf
  rotate_left
  · cases hf
  rename_i e
  subst e
  cases hf
  unfold valuesP at hr
  split at hr
  rotate_left
  · cases hr
  rename_i a
  simp only [Option.bind_eq_some_iff] at hr
  obtain ⟨zs, hz, hr⟩ := hr
  split at hr
  rotate_left
  · cases hr
  rename_i hlen
  cases hr
  have := intsOf_some hz
  subst this
  obtain ⟨hl, hv⟩ := ha
  match us, hl, hv with
  | [u1], hl, hv =>
  have v1 := hv 0 _ u1 rfl rfl
  refine ⟨Go.Proofs.enters_of Try.func42 (by kernel_rfl) rfl, ?_⟩
  cases v1 with
  | ref f1 c1 d1 =>
  rename_i B1 o1
  obtain ⟨_, z1, e1⟩ := c1 0 (.sl (zs.map iV)) rfl
  obtain ⟨A1, p1, fx, w1, r1⟩ := row_read (P := Try.prog) (d1 0 (.sl (zs.map iV)) rfl) (by simp [iV, V.one])
  rw [w1] at e1
  rw [List.length_map] at e1
  refine ⟨(List.range zs.length).map fun k => [fx k], by simp, ?_, ?_⟩
  · intro k x u hx hu
    rw [List.getElem?_map] at hx hu
    cases hxa : zs[k]? with
    | none => simp [hxa] at hx
    | some xa =>
      simp [hxa] at hx
      subst hx
      have hka := (List.getElem?_eq_some_iff.1 hxa).1
      rw [List.getElem?_range (by omega)] at hu
      simp at hu
      subst hu
      refine ⟨rfl, fun i y v hy hv => ?_⟩
      match i, hy, hv with
      | 0, hy, hv => simp at hy hv; subst hy; subst hv; exact (r1 k (iV xa) (by simp [hxa])).1
      | i + 1, hy, hv => simp at hy
  · intro l I Ix W hI hIx hK hY h0
    have hY' : ∀ k W, k < zs.length → I k W → YieldAt Fence.wide 0 Try.prog l #[fx k] W fun e W2 => (e = .returned (.bool true) ∧ I (k + 1) W2) ∨ (e = .returned (.bool false) ∧ Ix W2) := by
      intro k W hk1 hi
      have := hY k [fx k] W (by rw [List.getElem?_map, List.getElem?_range (by omega)]; rfl) hi
      exact this
    have hx : ∀ k, k < zs.length → ∃ b1 p1, A1 = some ⟨b1, p1, none⟩ ∧ ∀ W, I k W → W.cell? ⟨b1, p1 + k, none⟩ = some (fx k) := by
      intro k hk1
      obtain ⟨_, g1, q1, m1, m2, m3⟩ := r1 k (iV zs[k]) (by simp [hk1])
      exact ⟨g1, q1, m1, fun W hi => ((hK k W hi).2 _ _ m2).trans m3⟩
    have := values1_in l B1 (o1 + 0) zs.length p1 A1 fx I Ix (by omega) (fun k W hi => ((hK k W hi).2 _ _ z1).trans e1) hx hY' W h0
    have := (callsIn_wide (n := 1)).1 this
    simp only [List.length_map, List.length_range]
    exact this

theorem sortW : SortW Try.prog 41 := ⟨sortC, sortC0⟩
theorem cutW : CompactW Try.prog 39 := ⟨cutC, cutC0⟩
theorem ce3 : Try.prog.cellsOf 3 = 1 := by kernel_rfl
theorem clone_p : PureOK Try.prog fun f' av => if f' = 26 then cloneP 3 1 av else none := by
  have := Go.Lite.clone_ok cloneWI
  rw [ce3] at this
  exact this
theorem ip_ok : ∀ f g, mip f = some g → ImpOK Try.prog fun f' av mem => if f' = f then g av mem else none := by
  intro f g h
  unfold mip at h
  split at h
  · rename_i e
    subst e
    cases h
    exact sort_ok sortW ce3
  · split at h
    · rename_i e
      subst e
      cases h
      exact compact_ok cutW ce3
    · cases h
theorem hokA : CfgOK cfgA := by
  refine ⟨by kernel_rfl, ?_, ip_ok, seq_ok⟩
  intro f g h
  have h : mppA f = some g := h
  unfold mppA at h
  split at h
  · rename_i e
    subst e
    cases h
    exact clone_p
  · cases h
theorem right_p : PureOK Try.prog fun f' av => if f' = 23 then rightP av else none := by
  intro f' av r h hok
  simp only at h
  by_cases hf : f' = 23
  rotate_left
  · rw [if_neg hf] at h; cases h
  subst hf
  rw [if_pos rfl] at h
  obtain ⟨n, hn⟩ := pcW_ex (rightP_some h)
  exact (callN_sound hokA n).1 _ _ _ hn hok
theorem hokB : CfgOK cfgB := by
  refine ⟨by kernel_rfl, ?_, ip_ok, seq_ok⟩
  intro f g h
  have h : mppB f = some g := h
  unfold mppB at h
  split at h
  · rename_i e
    subst e
    cases h
    exact clone_p
  · split at h
    · rename_i e
      subst e
      cases h
      exact right_p
    · cases h
end Go.Proofs.Ytnaidbmgibmnbaa
