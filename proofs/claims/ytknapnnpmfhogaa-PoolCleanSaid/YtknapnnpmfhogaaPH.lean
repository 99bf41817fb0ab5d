/-
  What is known by a law of its own in the pool is so.
-/
import Derived.Test.YtknapnnpmfhogaaPK
import Derived.Test.YtknapnnpmfhogaaPQ
namespace Go.Proofs.Ytknapnnpmfhogaa
open Go Go.Lite
theorem hok : CfgOK qcfg := by
  refine ⟨by kernel_rfl, ?_, ?_, seq_ok⟩
  · intro f g h
    have h : qppr f = some g := h
    unfold qppr at h
    split at h
    · rename_i e
      subst e
      cases h
      exact over_sound overW
    · cases h
  · intro f g h
    have h : qipr f = some g := h
    unfold qipr at h
    split at h
    · rename_i e
      subst e
      cases h
      exact del_ok delWI
    · split at h
      · rename_i e
        subst e
        cases h
        exact sortedK_ok
      · cases h
end Go.Proofs.Ytknapnnpmfhogaa