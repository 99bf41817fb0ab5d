/-
  What a range over slices.Backward tells is so; slices.Sorted over maps.Keys.
-/
import Derived.Test.YtknapnnpmfhogaaPD
import Derived.Test.YtknapnnpmfhogaaPR
import Derived.Test.YtknapnnpmfhogaaLite26
namespace Go.Proofs.Ytknapnnpmfhogaa
open Go Go.Lite
theorem row_read2 {P : Program} {Z : Zs} {w : World} {a : List V} {u : Value} (h : VR Z w j0 (.sl a) u) (h1 : a.all pairV = true) :
    ∃ (A : Option Addr) (c : Nat) (fa fb : Nat → Value), u = .slice A a.length c ∧ ∀ k x, a[k]? = some x → VR Z w j0 x (.agg #[fa k, fb k]) ∧ ∃ g b, A = some ⟨g, b, none⟩ ∧ Z g (b + k * 2) ∧ Z g (b + k * 2 + 1) ∧ w.cell? ⟨g, b + k * 2, none⟩ = some (fa k) ∧ w.cell? ⟨g, b + k * 2 + 1, none⟩ = some (fb k) := by
  rcases h.slInv with ⟨A, c, rfl, rfl⟩ | ⟨g, b, c, sz, rfl, _, hsz, hh⟩
  · exact ⟨A, c, fun _ => default, fun _ => default, rfl, fun k x hk => by simp at hk⟩
  · refine ⟨some ⟨g, b, none⟩, c, fun k => (w.cell? ⟨g, b + k * 2, none⟩).getD default, fun k => (w.cell? ⟨g, b + k * 2 + 1, none⟩).getD default, rfl, fun k x hk => ?_⟩
    have hone : pairV x = true := List.all_eq_true.1 h1 x (List.mem_of_getElem? hk)
    obtain ⟨l1, l2, l3⟩ := hh k x hk
    unfold pairV at hone
    split at hone
    rotate_left
    · cases hone
    rename_i x1 x2
    have e : V.cells (.agg [x1, x2]) = [x1, x2] := rfl
    rw [e] at l1 l3
    have : sz = 2 := l1.symm
    subst this
    obtain ⟨_, u1, hu1, hv1⟩ := l3 0 x1 rfl
    obtain ⟨_, u2, hu2, hv2⟩ := l3 1 x2 rfl
    rw [Nat.add_zero] at hu1
    have hz1 := l2 0 (by decide)
    have hz2 := l2 1 (by decide)
    rw [Nat.add_zero] at hz1
    dsimp only
    rw [hu1, hu2]
    refine ⟨?_, g, b, rfl, hz1, hz2, ?_, ?_⟩
    · exact .agg (us := [u1, u2]) rfl fun i c u hc hu => by
        match i, hc, hu with
        | 0, hc, hu => simp at hc hu; subst hc; subst hu; exact hv1
        | 1, hc, hu => simp at hc hu; subst hc; subst hu; exact hv2
        | i + 2, hc, hu => simp at hc
    · rw [hu1]; rfl
    · rw [hu2]; rfl
theorem seq_ok : SeqOK Try.prog qseq := by
  intro f ts h xs rounds hf hr Z w us hzin ha
  unfold qseq at hf
  split at hf
  rotate_left
  · cases hf
  rename_i e
  subst e
  cases hf
  unfold backP at hr
  split at hr
  rotate_left
  · cases hr
  rename_i a
  split at hr
  rotate_left
  · cases hr
  rename_i hc
  obtain ⟨hlen, hpair⟩ := hc
  cases hr
  obtain ⟨hl, hv⟩ := ha
  match us, hl, hv with
  | [u1], hl, hv =>
  have v1 := hv 0 _ u1 rfl rfl
  refine ⟨Go.Proofs.enters_of Try.func56 (by kernel_rfl) rfl, ?_⟩
  cases v1 with
  | ref f1 c1 d1 =>
  rename_i B1 o1
  obtain ⟨_, z1, e1⟩ := c1 0 (.sl a) rfl
  obtain ⟨A1, p1, fa, fb, w1, r1⟩ := row_read2 (P := Try.prog) (d1 0 (.sl a) rfl) hpair
  rw [w1] at e1
  have hbl : (backsR a).length = a.length := by simp [backsR]
  have hbg : ∀ k x, (backsR a)[k]? = some x → ∃ y, a[a.length - 1 - k]? = some y ∧ k < a.length ∧ x = [.int .i64 ((a.length - 1 - k : Nat) : Int), y] := by
    intro k x hx
    have hk : k < a.length := by rw [← hbl]; exact (List.getElem?_eq_some_iff.1 hx).1
    unfold backsR at hx
    rw [List.getElem?_reverse (by simpa using hk)] at hx
    simp only [List.length_map, List.length_zipIdx, List.getElem?_map, List.getElem?_zipIdx] at hx
    have hy : a[a.length - 1 - k]? = some a[a.length - 1 - k] := List.getElem?_eq_getElem (by omega)
    rw [hy] at hx
    simp at hx
    refine ⟨_, hy, hk, ?_⟩
    rw [← hx]
  refine ⟨(List.range a.length).map fun k : Nat => [.int .i64 ((a.length : Int) - 1 - (k : Int)), .agg #[fa (a.length - 1 - k), fb (a.length - 1 - k)]], by simp [hbl], ?_, ?_⟩
  · intro k x u hx hu
    obtain ⟨y, hy, hk, rfl⟩ := hbg k x hx
    rw [List.getElem?_map, List.getElem?_range hk] at hu
    simp at hu
    subst hu
    refine ⟨rfl, fun i y' v hy' hv' => ?_⟩
    match i, hy', hv' with
    | 0, hy', hv' =>
      simp at hy' hv'; subst hy'; subst hv'
      have : ((a.length - 1 - k : Nat) : Int) = (a.length : Int) - 1 - (k : Int) := by omega
      rw [this]; exact .int
    | 1, hy', hv' => simp at hy' hv'; subst hy'; subst hv'; exact (r1 _ y hy).1
    | i + 2, hy', hv' => simp at hy'
  · intro l I Ix W hI hIx hK hY h0
    have hY' : ∀ k W, k < a.length → I k W → YieldAt Fence.wide 0 Try.prog l #[.int .i64 ((a.length : Int) - 1 - (k : Int)), .agg #[fa (a.length - 1 - k), fb (a.length - 1 - k)]] W fun e W2 => (e = .returned (.bool true) ∧ I (k + 1) W2) ∨ (e = .returned (.bool false) ∧ Ix W2) := by
      intro k W hk1 hi
      exact hY k [.int .i64 ((a.length : Int) - 1 - (k : Int)), .agg #[fa (a.length - 1 - k), fb (a.length - 1 - k)]] W (by rw [List.getElem?_map, List.getElem?_range hk1]; rfl) hi
    have hx : ∀ k, k < a.length → ∃ b1 p1, A1 = some ⟨b1, p1, none⟩ ∧ ∀ W m, I m W → W.cell? ⟨b1, p1 + k * 2, none⟩ = some (fa k) ∧ W.cell? ⟨b1, p1 + k * 2 + 1, none⟩ = some (fb k) := by
      intro k hk1
      obtain ⟨_, g1, q1, m1, m2, m3, m4, m5⟩ := r1 k a[k] (by simp [hk1])
      exact ⟨g1, q1, m1, fun W m hi => ⟨((hK m W hi).2 _ _ m2).trans m4, ((hK m W hi).2 _ _ m3).trans m5⟩⟩
    have := back1_in l B1 (o1 + 0) a.length p1 A1 fa fb I Ix hlen (fun k W hi => ((hK k W hi).2 _ _ z1).trans e1) hx hY' W h0
    have := (callsIn_wide (n := 1)).1 this
    simp only [List.length_map, List.length_range]
    exact this
end Go.Proofs.Ytknapnnpmfhogaa