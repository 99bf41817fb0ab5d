/-
  The rest is walked with 'right' known by its law.
-/
import Derived.Test.YtnaidbmgibmnbaaM4
namespace Go.Proofs.Ytnaidbmgibmnbaa
open Go Go.Lite

def rightP : List V → Option V
  | [.sl l] => (intsOf l).bind fun xs => if xs.length ≤ 65536 then some (.bool (okB xs)) else none
  | _ => none
theorem rightP_some {av : List V} {r : V} (h : rightP av = some r) : pcW cfgA 23 av = some r := by
  unfold rightP at h
  split at h
  · simp only [Option.bind_eq_some_iff] at h
    obtain ⟨xs, hx, h⟩ := h
    split at h
    · rename_i hl
      cases h
      rw [intsOf_some hx]
      exact A.right_okA xs hl
    · cases h
  · cases h
def mppB (f : Nat) : Option (List V → Option V) := if f = 26 then some (cloneP 3 1) else if f = 23 then some rightP else none
noncomputable def cfgB : Cfg := ⟨Try.prog, fun f => !mimp f, fun f => f == 26, mppB, mip, fun _ _ => false, mseq⟩
noncomputable def kcB00 : KC := { cfg := cfgB, frs := fun _ => true, ik := mik0 }
theorem ikB00 : IKOK kcB00 := fun _ _ _ _ _ h => mik_some rfl h
theorem faVB_eq : fnA cfgB.P (cfgB.rxf 25) 25 = some faV := by kernel_rfl
theorem eVB_eq (l : List V) : enterK kcB00 false faV [.sl l] [] = some (.done (.fn 42 [.ref (.sl l) 0])) := by kernel_rfl
theorem valB (l : List V) : pcW cfgB 25 [.sl l] = some (.fn 42 [.ref (.sl l) 0]) := pcW_go ikB00 rfl faVB_eq (eVB_eq l) (.refl _)
noncomputable def kcB0 : KC := { cfg := cfgB, frs := fun _ => true, ik := mik0, pv := mpv, pvok := fun f g av r h h2 => by obtain ⟨rfl, l, rfl, rfl⟩ := mpv_some h h2; exact valB l }
theorem ikB0 : IKOK kcB0 := fun _ _ _ _ _ h => mik_some rfl h
end Go.Proofs.Ytnaidbmgibmnbaa
