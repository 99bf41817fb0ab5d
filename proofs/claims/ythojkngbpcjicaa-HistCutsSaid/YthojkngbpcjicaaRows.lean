/-
  No cell of these rows narrows 'for every input' (looked for: loops, veiled, ifaces, maps, wideKeys, modest, calm, conditions, laid).
  DERIVED. THE GIVEN ROWS OF THIS SEAT. 5 by the template 'for every input the law returns true; each argument reads behind the call as it read before'; 0 by the template 'total and deterministic' (their statements: YthojkngbpcjicaaTotals.lean).
  GIVEN WITH THE SEED: the statements are not yours to turn. If you find one false, say at which input.
  Laid BY PROGRAM, IN A SANDBOX (cutbox-rows.mjs): the forced cells as the released guide's own fill.sh prints them over the translation 0d9e0d3348cf3040… (all of the seat's roots in one cut). By AI agents, Wed Nov 11 2026. No macro, syntax, notation, axiom, sorry.
-/
import Derived.Test.YthojkngbpcjicaaChecked
import GoSem.Claim
import GoSem.ClaimJoined
import GoSem.ClaimMapViews
import Derived.JoinedTies
import Derived.KernelRfl
namespace Go.Proofs.Ythojkngbpcjicaa
/- THE CELL 'sum', in the pinned program and in every row, IS THE sha256 OF THE DUMP (.gsa) THAT YthojkngbpcjicaaProg.lean LOADS. Nothing in Lean hashes anything: it is a label: what it is worth is what the hold of that sum in a sandbox is worth. -/
noncomputable def Try.pinned : Pinned := { name := "ythojkngbpcjicaa", sum := "0d9e0d3348cf3040a2adf1dfab384777a4a7be2d7b268f1bdd26385d70ad7a1b", checked := Try.checked }
namespace Rows
def none {H : Type} : Left H := { results := [], args := [] }

/-- 'budwoodlaw23.HistTells': WHATEVER THE INPUT: true; the input reads as it did. -/
def histTellsSpec : ChangeSpec := { name := "histTells", fn := fun _ => fun
  | [d1, d2] => { results := [.lit (.bool true)], args := [d1, d2] }
  | _ => none }
def histTellsRow : OpenClaim := { program := "ythojkngbpcjicaa", sum := "0d9e0d3348cf3040a2adf1dfab384777a4a7be2d7b268f1bdd26385d70ad7a1b", func := "budwood/budwoodlaw23.HistTells", spec := "histTells", inPlace := ["internal/bytealg.abigen_runtime_cmpstring", "slices.overlaps[budwood/api.Pair]"], unfollowed := true, recurses := true, apart := false }
def HistTellsSaid : Prop := histTellsRow.holds Try.pinned (OpenSpec.ofChange histTellsSpec)

/-- ITS FALSE NEIGHBOUR: 'it returns false'. Refute it at one input. -/
def histTellsWrong : ChangeSpec := { name := "histTells", fn := fun _ => fun
  | [d1, d2] => { results := [.lit (.bool false)], args := [d1, d2] }
  | _ => none }
def HistTellsWrongFalsely : Prop := histTellsRow.holds Try.pinned (OpenSpec.ofChange histTellsWrong)

/-- 'budwoodlaw23.HistMaps': WHATEVER THE INPUT: true; the input reads as it did. -/
def histMapsSpec : ChangeSpec := { name := "histMaps", fn := fun _ => fun
  | [d1, d2] => { results := [.lit (.bool true)], args := [d1, d2] }
  | _ => none }
def histMapsRow : OpenClaim := { program := "ythojkngbpcjicaa", sum := "0d9e0d3348cf3040a2adf1dfab384777a4a7be2d7b268f1bdd26385d70ad7a1b", func := "budwood/budwoodlaw23.HistMaps", spec := "histMaps", inPlace := ["internal/bytealg.abigen_runtime_cmpstring", "slices.overlaps[budwood/api.Pair]"], unfollowed := true, recurses := true, apart := false }
def HistMapsSaid : Prop := histMapsRow.holds Try.pinned (OpenSpec.ofChange histMapsSpec)

/-- ITS FALSE NEIGHBOUR: 'it returns false'. Refute it at one input. -/
def histMapsWrong : ChangeSpec := { name := "histMaps", fn := fun _ => fun
  | [d1, d2] => { results := [.lit (.bool false)], args := [d1, d2] }
  | _ => none }
def HistMapsWrongFalsely : Prop := histMapsRow.holds Try.pinned (OpenSpec.ofChange histMapsWrong)

/-- 'budwoodlaw23.HistOwn': WHATEVER THE INPUT: true; the input reads as it did. -/
def histOwnSpec : ChangeSpec := { name := "histOwn", fn := fun _ => fun
  | [d1, d2] => { results := [.lit (.bool true)], args := [d1, d2] }
  | _ => none }
def histOwnRow : OpenClaim := { program := "ythojkngbpcjicaa", sum := "0d9e0d3348cf3040a2adf1dfab384777a4a7be2d7b268f1bdd26385d70ad7a1b", func := "budwood/budwoodlaw23.HistOwn", spec := "histOwn", inPlace := ["internal/bytealg.abigen_runtime_cmpstring", "slices.overlaps[budwood/api.Pair]"], unfollowed := true, recurses := true, apart := false }
def HistOwnSaid : Prop := histOwnRow.holds Try.pinned (OpenSpec.ofChange histOwnSpec)

/-- ITS FALSE NEIGHBOUR: 'it returns false'. Refute it at one input. -/
def histOwnWrong : ChangeSpec := { name := "histOwn", fn := fun _ => fun
  | [d1, d2] => { results := [.lit (.bool false)], args := [d1, d2] }
  | _ => none }
def HistOwnWrongFalsely : Prop := histOwnRow.holds Try.pinned (OpenSpec.ofChange histOwnWrong)

/-- 'budwoodlaw23.HistOne': WHATEVER THE INPUT: true; the input reads as it did. -/
def histOneSpec : ChangeSpec := { name := "histOne", fn := fun _ => fun
  | [d1, d2] => { results := [.lit (.bool true)], args := [d1, d2] }
  | _ => none }
def histOneRow : OpenClaim := { program := "ythojkngbpcjicaa", sum := "0d9e0d3348cf3040a2adf1dfab384777a4a7be2d7b268f1bdd26385d70ad7a1b", func := "budwood/budwoodlaw23.HistOne", spec := "histOne", inPlace := ["internal/bytealg.abigen_runtime_cmpstring", "slices.overlaps[budwood/api.Pair]"], unfollowed := true, recurses := true, apart := false }
def HistOneSaid : Prop := histOneRow.holds Try.pinned (OpenSpec.ofChange histOneSpec)

/-- ITS FALSE NEIGHBOUR: 'it returns false'. Refute it at one input. -/
def histOneWrong : ChangeSpec := { name := "histOne", fn := fun _ => fun
  | [d1, d2] => { results := [.lit (.bool false)], args := [d1, d2] }
  | _ => none }
def HistOneWrongFalsely : Prop := histOneRow.holds Try.pinned (OpenSpec.ofChange histOneWrong)

/-- 'budwoodlaw23.HistCuts': WHATEVER THE INPUT: true; the input reads as it did. -/
def histCutsSpec : ChangeSpec := { name := "histCuts", fn := fun _ => fun
  | [d1, d2, d3] => { results := [.lit (.bool true)], args := [d1, d2, d3] }
  | _ => none }
def histCutsRow : OpenClaim := { program := "ythojkngbpcjicaa", sum := "0d9e0d3348cf3040a2adf1dfab384777a4a7be2d7b268f1bdd26385d70ad7a1b", func := "budwood/budwoodlaw23.HistCuts", spec := "histCuts", inPlace := ["internal/bytealg.abigen_runtime_cmpstring", "slices.overlaps[budwood/api.Pair]"], unfollowed := true, recurses := true, apart := false }
def HistCutsSaid : Prop := histCutsRow.holds Try.pinned (OpenSpec.ofChange histCutsSpec)

/-- ITS FALSE NEIGHBOUR: 'it returns false'. Refute it at one input. -/
def histCutsWrong : ChangeSpec := { name := "histCuts", fn := fun _ => fun
  | [d1, d2, d3] => { results := [.lit (.bool false)], args := [d1, d2, d3] }
  | _ => none }
def HistCutsWrongFalsely : Prop := histCutsRow.holds Try.pinned (OpenSpec.ofChange histCutsWrong)

/- THE SECOND FORM. 'bulk': how many values and letters a reading holds, each counted each time it is reached (what is shared counts as often as it is met; a slice's spare places count too). A statement '..UptoSaid' is the law's where the arguments, and the package variables that the reading takes, are together of bulk at most 1048576: NARROWER than '..Said'. Prove '..Said' where nothing that the law and all that it calls make is longer than what came in: it says more and counts as full. Else prove '..UptoSaid'. A law counts once. -/
mutual
def uptoBulk {H : Type} : DataW H → Nat
  | .lit (.string bytes) => bytes.length + 1
  | .lit _ => 1
  | .nil => 1
  | .ptr d => uptoBulk d + 1
  | .slice elems spare => uptoBulkAll elems + uptoBulkAll spare + 1
  | .agg parts => uptoBulkAll parts + 1
  | .iface _ d => uptoBulk d + 1
  | .map entries => uptoBulkEntries entries + 1
  | .held _ => 1
def uptoBulkAll {H : Type} : List (DataW H) → Nat
  | [] => 0
  | d :: r => uptoBulk d + uptoBulkAll r
def uptoBulkEntries {H : Type} : List (Lit × DataW H) → Nat
  | [] => 0
  | x :: r => uptoBulkEntry x + uptoBulkEntries r
def uptoBulkEntry {H : Type} : Lit × DataW H → Nat
  | (.string bytes, d) => bytes.length + uptoBulk d + 1
  | (_, d) => uptoBulk d + 1
 end
def uptoSmall : (H : Type) → List (DataW H) → Bool := fun _ ds => decide (uptoBulkAll ds ≤ 1048576)
def OpenSpec.upto (s : _root_.Go.ChangeSpec) : _root_.Go.OpenSpec := { _root_.Go.OpenSpec.ofChange s with cond := some uptoSmall }

/-- 'budwoodlaw23.HistTells', WHERE WHAT IT READS IS OF BULK AT MOST 1048576: true; the input reads as it did. -/
def histTellsUptoRow : OpenClaim := { program := "ythojkngbpcjicaa", sum := "0d9e0d3348cf3040a2adf1dfab384777a4a7be2d7b268f1bdd26385d70ad7a1b", func := "budwood/budwoodlaw23.HistTells", spec := "histTells", inPlace := ["internal/bytealg.abigen_runtime_cmpstring", "slices.overlaps[budwood/api.Pair]"], unfollowed := true, recurses := true, apart := false, narrowed := true }
def HistTellsUptoSaid : Prop := histTellsUptoRow.holds Try.pinned (OpenSpec.upto histTellsSpec)

/-- 'budwoodlaw23.HistMaps', WHERE WHAT IT READS IS OF BULK AT MOST 1048576: true; the input reads as it did. -/
def histMapsUptoRow : OpenClaim := { program := "ythojkngbpcjicaa", sum := "0d9e0d3348cf3040a2adf1dfab384777a4a7be2d7b268f1bdd26385d70ad7a1b", func := "budwood/budwoodlaw23.HistMaps", spec := "histMaps", inPlace := ["internal/bytealg.abigen_runtime_cmpstring", "slices.overlaps[budwood/api.Pair]"], unfollowed := true, recurses := true, apart := false, narrowed := true }
def HistMapsUptoSaid : Prop := histMapsUptoRow.holds Try.pinned (OpenSpec.upto histMapsSpec)

/-- 'budwoodlaw23.HistOwn', WHERE WHAT IT READS IS OF BULK AT MOST 1048576: true; the input reads as it did. -/
def histOwnUptoRow : OpenClaim := { program := "ythojkngbpcjicaa", sum := "0d9e0d3348cf3040a2adf1dfab384777a4a7be2d7b268f1bdd26385d70ad7a1b", func := "budwood/budwoodlaw23.HistOwn", spec := "histOwn", inPlace := ["internal/bytealg.abigen_runtime_cmpstring", "slices.overlaps[budwood/api.Pair]"], unfollowed := true, recurses := true, apart := false, narrowed := true }
def HistOwnUptoSaid : Prop := histOwnUptoRow.holds Try.pinned (OpenSpec.upto histOwnSpec)

/-- 'budwoodlaw23.HistOne', WHERE WHAT IT READS IS OF BULK AT MOST 1048576: true; the input reads as it did. -/
def histOneUptoRow : OpenClaim := { program := "ythojkngbpcjicaa", sum := "0d9e0d3348cf3040a2adf1dfab384777a4a7be2d7b268f1bdd26385d70ad7a1b", func := "budwood/budwoodlaw23.HistOne", spec := "histOne", inPlace := ["internal/bytealg.abigen_runtime_cmpstring", "slices.overlaps[budwood/api.Pair]"], unfollowed := true, recurses := true, apart := false, narrowed := true }
def HistOneUptoSaid : Prop := histOneUptoRow.holds Try.pinned (OpenSpec.upto histOneSpec)

/-- 'budwoodlaw23.HistCuts', WHERE WHAT IT READS IS OF BULK AT MOST 1048576: true; the input reads as it did. -/
def histCutsUptoRow : OpenClaim := { program := "ythojkngbpcjicaa", sum := "0d9e0d3348cf3040a2adf1dfab384777a4a7be2d7b268f1bdd26385d70ad7a1b", func := "budwood/budwoodlaw23.HistCuts", spec := "histCuts", inPlace := ["internal/bytealg.abigen_runtime_cmpstring", "slices.overlaps[budwood/api.Pair]"], unfollowed := true, recurses := true, apart := false, narrowed := true }
def HistCutsUptoSaid : Prop := histCutsUptoRow.holds Try.pinned (OpenSpec.upto histCutsSpec)

end Rows
end Go.Proofs.Ythojkngbpcjicaa
