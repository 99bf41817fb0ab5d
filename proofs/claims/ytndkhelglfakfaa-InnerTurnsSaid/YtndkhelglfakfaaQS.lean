/-
  What is known by a law of its own in inner is so.
-/
import Derived.Test.YtndkhelglfakfaaQP
import Derived.Test.YtndkhelglfakfaaQR
import Derived.Shelf.Abstract
namespace Go.Proofs.Ytndkhelglfakfaa
open Go Go.Lite

theorem row_read {P : Program} {Z : Zs} {w : World} {a : List V} {u : Value} (h : VR Z w j0 (.sl a) u) (h1 : a.all V.one = true) :
    ∃ (A : Option Addr) (c : Nat) (fx : Nat → Value), u = .slice A a.length c ∧ ∀ k x, a[k]? = some x → VR Z w j0 x (fx k) ∧ ∃ g b, A = some ⟨g, b, none⟩ ∧ Z g (b + k) ∧ w.cell? ⟨g, b + k, none⟩ = some (fx k) := by
  rcases h.slInv with ⟨A, c, rfl, rfl⟩ | ⟨g, b, c, sz, rfl, _, hsz, hh⟩
  · exact ⟨A, c, fun _ => default, rfl, fun k x hk => by simp at hk⟩
  · refine ⟨some ⟨g, b, none⟩, c, fun k => (w.cell? ⟨g, b + k, none⟩).getD default, rfl, fun k x hk => ?_⟩
    have hone : x.one = true := List.all_eq_true.1 h1 x (List.mem_of_getElem? hk)
    obtain ⟨l1, l2, l3⟩ := hh k x hk
    rw [cells_one hone] at l1 l3
    have : sz = 1 := l1.symm
    subst this
    obtain ⟨_, u, hu, hv⟩ := l3 0 x rfl
    rw [Nat.mul_one, Nat.add_zero] at hu
    have hz := l2 0 (by decide)
    rw [Nat.mul_one, Nat.add_zero] at hz
    show VR Z w j0 x ((w.cell? ⟨g, b + k, none⟩).getD default) ∧ _
    rw [hu]
    refine ⟨hv, g, b, rfl, hz, ?_⟩
    show w.cell? ⟨g, b + k, none⟩ = some ((w.cell? ⟨g, b + k, none⟩).getD default)
    rw [hu]
    rfl

theorem seq_ok : SeqOK Try.prog qseq := by
  intro f ts h xs rounds hf hr Z w us hzin ha
  unfold qseq at hf
  split at hf
  rotate_left
  · cases hf
  rename_i e
  subst e
  cases hf
  unfold bothP at hr
  split at hr
  rotate_left
  · cases hr
  rename_i a b
  split at hr
  rotate_left
  · cases hr
  rename_i hc
  obtain ⟨hal, ha1, hb1⟩ := hc
  cases hr
  obtain ⟨hl, hv⟩ := ha
  match us, hl, hv with
  | [u1, u2], hl, hv =>
  have v1 := hv 0 _ u1 rfl rfl
  have v2 := hv 1 _ u2 rfl rfl
  refine ⟨Go.Proofs.enters_of Try.func66 (by kernel_rfl) rfl, ?_⟩
  cases v1 with
  | ref f1 c1 d1 =>
  rename_i B1 o1
  cases v2 with
  | ref f2 c2 d2 =>
  rename_i B2 o2
  obtain ⟨_, z1, e1⟩ := c1 0 (.sl a) rfl
  obtain ⟨_, z2, e2⟩ := c2 0 (.sl b) rfl
  obtain ⟨A1, p1, fx, w1, r1⟩ := row_read (P := Try.prog) (d1 0 (.sl a) rfl) ha1
  obtain ⟨A2, p2, fy, w2, r2⟩ := row_read (P := Try.prog) (d2 0 (.sl b) rfl) hb1
  rw [w1] at e1
  rw [w2] at e2
  refine ⟨(List.range (min a.length b.length)).map fun k => [fx k, fy k], by simp, ?_, ?_⟩
  · intro k x u hx hu
    rw [List.getElem?_zipWith] at hx
    rw [List.getElem?_map] at hu
    cases hxa : a[k]? with
    | none => simp [hxa] at hx
    | some xa =>
      cases hxb : b[k]? with
      | none => simp [hxa, hxb] at hx
      | some xb =>
        simp [hxa, hxb] at hx
        subst hx
        have hka := (List.getElem?_eq_some_iff.1 hxa).1
        have hkb := (List.getElem?_eq_some_iff.1 hxb).1
        rw [List.getElem?_range (by omega)] at hu
        simp at hu
        subst hu
        refine ⟨rfl, fun i y v hy hv => ?_⟩
        match i, hy, hv with
        | 0, hy, hv => simp at hy hv; subst hy; subst hv; exact (r1 k _ hxa).1
        | 1, hy, hv => simp at hy hv; subst hy; subst hv; exact (r2 k _ hxb).1
        | i + 2, hy, hv => simp at hy
  · intro l I Ix W hI hIx hK hY h0
    have hY' : ∀ k W, k < a.length → k < b.length → I k W → YieldAt Fence.wide 0 Try.prog l #[fx k, fy k] W fun e W2 => (e = .returned (.bool true) ∧ I (k + 1) W2) ∨ (e = .returned (.bool false) ∧ Ix W2) := by
      intro k W hk1 hk2 hi
      have := hY k [fx k, fy k] W (by rw [List.getElem?_map, List.getElem?_range (by omega)]; rfl) hi
      exact this
    have hx : ∀ k, k < a.length → k < b.length → ∃ b1 p1 b2 p2, A1 = some ⟨b1, p1, none⟩ ∧ A2 = some ⟨b2, p2, none⟩ ∧ ∀ W, I k W → W.cell? ⟨b1, p1 + k, none⟩ = some (fx k) ∧ W.cell? ⟨b2, p2 + k, none⟩ = some (fy k) := by
      intro k hk1 hk2
      obtain ⟨_, g1, q1, m1, m2, m3⟩ := r1 k _ (List.getElem?_eq_getElem hk1)
      obtain ⟨_, g2, q2, n1, n2, n3⟩ := r2 k _ (List.getElem?_eq_getElem hk2)
      exact ⟨g1, q1, g2, q2, m1, n1, fun W hi => ⟨((hK k W hi).2 _ _ m2).trans m3, ((hK k W hi).2 _ _ n2).trans n3⟩⟩
    have := both1_in l B1 (o1 + 0) B2 (o2 + 0) a.length p1 b.length p2 (min a.length b.length) rfl A1 A2 fx fy I Ix hal (fun k W hi => hI k W W.drew hi ⟨rfl, rfl, rfl, rfl⟩) (fun k W hi => ((hK k W hi).2 _ _ z1).trans e1) (fun k W hi => ((hK k W hi).2 _ _ z2).trans e2) hx hY' W h0
    have := (callsIn_wide (n := 1)).1 this
    simp only [List.length_map, List.length_range]
    exact this

theorem hok : CfgOK qcfg := by
  have hceS : Try.prog.cellsOf 9 = 1 := by kernel_rfl
  have hceI : Try.prog.cellsOf 3 = 1 := by kernel_rfl
  refine ⟨by kernel_rfl, ?_, ?_, seq_ok⟩
  · intro f g h
    have h : qppr f = some g := h
    unfold qppr at h
    split at h
    · rename_i e
      subst e
      cases h
      have := clone_ok cloneWS
      rw [hceS] at this
      exact this
    · split at h
      · rename_i e
        subst e
        cases h
        have := clone_ok cloneWI
        rw [hceI] at this
        exact this
      · split at h
        · rename_i e
          subst e
          cases h
          exact over_sound overW
        · cases h
  · intro f g h
    have h : qipr f = some g := h
    unfold qipr at h
    split at h
    · rename_i e
      subst e
      cases h
      have := ins_ok insWS
      rw [hceS] at this
      exact this
    · split at h
      · rename_i e
        subst e
        cases h
        have := ins_ok insWI
        rw [hceI] at this
        exact this
      · split at h
        · rename_i e
          subst e
          cases h
          exact del_ok delWS
        · split at h
          · rename_i e
            subst e
            cases h
            exact del_ok delWI
          · cases h
end Go.Proofs.Ytndkhelglfakfaa
