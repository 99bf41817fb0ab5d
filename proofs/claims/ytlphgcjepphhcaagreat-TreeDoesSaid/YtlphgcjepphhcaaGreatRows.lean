/-
  No cell of these rows narrows 'for every input' (looked for: loops, veiled, ifaces, maps, wideKeys, modest, calm, conditions, laid).
  DERIVED. THE GIVEN ROWS OF THIS SEAT. 11 by the template 'for every input the law returns true; each argument reads behind the call as it read before'; 0 by the template 'total and deterministic' (their statements: YtlphgcjepphhcaaGreatTotals.lean).
  GIVEN WITH THE SEED: the statements are not yours to turn. If you find one false, say at which input.
  Laid BY PROGRAM, IN A SANDBOX (cutbox-rows.mjs): the forced cells as the released guide's own fill.sh prints them over the translation 0470adf60c9385f9… (all of the seat's roots in one cut). By AI agents, Wed Nov 11 2026. No macro, syntax, notation, axiom, sorry.
-/
import Derived.Test.YtlphgcjepphhcaaGreatChecked
import GoSem.Claim
import GoSem.ClaimJoined
import GoSem.ClaimMapViews
import Derived.JoinedTies
import Derived.KernelRfl
namespace Go.Proofs.YtlphgcjepphhcaaGreat
/- THE CELL 'sum', in the pinned program and in every row, IS THE sha256 OF THE DUMP (.gsa) THAT YtlphgcjepphhcaaGreatProg.lean LOADS. Nothing in Lean hashes anything: it is a label: what it is worth is what the hold of that sum in a sandbox is worth. -/
noncomputable def Tryz.pinned : Pinned := { name := "ytlphgcjepphhcaagreat", sum := "0470adf60c9385f93bbf6fab3a0f628519fac357144cbdd4cc3d22cbdf38bba1", checked := Tryz.checked }
namespace Rows
def none {H : Type} : Left H := { results := [], args := [] }

/-- 'budwoodlaw14.CursorDoes': WHATEVER THE INPUT: true; the input reads as it did. -/
def cursorDoesSpec : ChangeSpec := { name := "cursorDoes", fn := fun _ => fun
  | [d1, d2, d3] => { results := [.lit (.bool true)], args := [d1, d2, d3] }
  | _ => none }
def cursorDoesRow : OpenClaim := { program := "ytlphgcjepphhcaagreat", sum := "0470adf60c9385f93bbf6fab3a0f628519fac357144cbdd4cc3d22cbdf38bba1", func := "budwood/budwoodlaw14.CursorDoes", spec := "cursorDoes", inPlace := ["internal/bytealg.abigen_runtime_cmpstring", "slices.overlaps[string]", "slices.overlaps[int]"], unfollowed := true, recurses := true, apart := false }
def CursorDoesSaid : Prop := cursorDoesRow.holds Tryz.pinned (OpenSpec.ofChange cursorDoesSpec)

/-- ITS FALSE NEIGHBOUR: 'it returns false'. Refute it at one input. -/
def cursorDoesWrong : ChangeSpec := { name := "cursorDoes", fn := fun _ => fun
  | [d1, d2, d3] => { results := [.lit (.bool false)], args := [d1, d2, d3] }
  | _ => none }
def CursorDoesWrongFalsely : Prop := cursorDoesRow.holds Tryz.pinned (OpenSpec.ofChange cursorDoesWrong)

/-- 'budwoodlaw14.CursorLoads': WHATEVER THE INPUT: true; the input reads as it did. -/
def cursorLoadsSpec : ChangeSpec := { name := "cursorLoads", fn := fun _ => fun
  | [d] => { results := [.lit (.bool true)], args := [d] }
  | _ => none }
def cursorLoadsRow : OpenClaim := { program := "ytlphgcjepphhcaagreat", sum := "0470adf60c9385f93bbf6fab3a0f628519fac357144cbdd4cc3d22cbdf38bba1", func := "budwood/budwoodlaw14.CursorLoads", spec := "cursorLoads", inPlace := ["internal/bytealg.abigen_runtime_cmpstring", "slices.overlaps[string]", "slices.overlaps[int]"], unfollowed := true, recurses := true, apart := false }
def CursorLoadsSaid : Prop := cursorLoadsRow.holds Tryz.pinned (OpenSpec.ofChange cursorLoadsSpec)

/-- ITS FALSE NEIGHBOUR: 'it returns false'. Refute it at one input. -/
def cursorLoadsWrong : ChangeSpec := { name := "cursorLoads", fn := fun _ => fun
  | [d] => { results := [.lit (.bool false)], args := [d] }
  | _ => none }
def CursorLoadsWrongFalsely : Prop := cursorLoadsRow.holds Tryz.pinned (OpenSpec.ofChange cursorLoadsWrong)

/-- 'budwoodlaw14.CursorRises': WHATEVER THE INPUT: true; the input reads as it did. -/
def cursorRisesSpec : ChangeSpec := { name := "cursorRises", fn := fun _ => fun
  | [d1, d2, d3] => { results := [.lit (.bool true)], args := [d1, d2, d3] }
  | _ => none }
def cursorRisesRow : OpenClaim := { program := "ytlphgcjepphhcaagreat", sum := "0470adf60c9385f93bbf6fab3a0f628519fac357144cbdd4cc3d22cbdf38bba1", func := "budwood/budwoodlaw14.CursorRises", spec := "cursorRises", inPlace := ["internal/bytealg.abigen_runtime_cmpstring", "slices.overlaps[string]", "slices.overlaps[int]"], unfollowed := true, recurses := true, apart := false }
def CursorRisesSaid : Prop := cursorRisesRow.holds Tryz.pinned (OpenSpec.ofChange cursorRisesSpec)

/-- ITS FALSE NEIGHBOUR: 'it returns false'. Refute it at one input. -/
def cursorRisesWrong : ChangeSpec := { name := "cursorRises", fn := fun _ => fun
  | [d1, d2, d3] => { results := [.lit (.bool false)], args := [d1, d2, d3] }
  | _ => none }
def CursorRisesWrongFalsely : Prop := cursorRisesRow.holds Tryz.pinned (OpenSpec.ofChange cursorRisesWrong)

/-- 'budwoodlaw14.CursorAll': WHATEVER THE INPUT: true; the input reads as it did. -/
def cursorAllSpec : ChangeSpec := { name := "cursorAll", fn := fun _ => fun
  | [d1, d2, d3] => { results := [.lit (.bool true)], args := [d1, d2, d3] }
  | _ => none }
def cursorAllRow : OpenClaim := { program := "ytlphgcjepphhcaagreat", sum := "0470adf60c9385f93bbf6fab3a0f628519fac357144cbdd4cc3d22cbdf38bba1", func := "budwood/budwoodlaw14.CursorAll", spec := "cursorAll", inPlace := ["internal/bytealg.abigen_runtime_cmpstring", "slices.overlaps[string]", "slices.overlaps[int]"], unfollowed := true, recurses := true, apart := false }
def CursorAllSaid : Prop := cursorAllRow.holds Tryz.pinned (OpenSpec.ofChange cursorAllSpec)

/-- ITS FALSE NEIGHBOUR: 'it returns false'. Refute it at one input. -/
def cursorAllWrong : ChangeSpec := { name := "cursorAll", fn := fun _ => fun
  | [d1, d2, d3] => { results := [.lit (.bool false)], args := [d1, d2, d3] }
  | _ => none }
def CursorAllWrongFalsely : Prop := cursorAllRow.holds Tryz.pinned (OpenSpec.ofChange cursorAllWrong)

/-- 'budwoodlaw14.CursorParts': WHATEVER THE INPUT: true; the input reads as it did. -/
def cursorPartsSpec : ChangeSpec := { name := "cursorParts", fn := fun _ => fun
  | [d1, d2] => { results := [.lit (.bool true)], args := [d1, d2] }
  | _ => none }
def cursorPartsRow : OpenClaim := { program := "ytlphgcjepphhcaagreat", sum := "0470adf60c9385f93bbf6fab3a0f628519fac357144cbdd4cc3d22cbdf38bba1", func := "budwood/budwoodlaw14.CursorParts", spec := "cursorParts", inPlace := ["internal/bytealg.abigen_runtime_cmpstring", "slices.overlaps[string]", "slices.overlaps[int]"], unfollowed := true, recurses := true, apart := false }
def CursorPartsSaid : Prop := cursorPartsRow.holds Tryz.pinned (OpenSpec.ofChange cursorPartsSpec)

/-- ITS FALSE NEIGHBOUR: 'it returns false'. Refute it at one input. -/
def cursorPartsWrong : ChangeSpec := { name := "cursorParts", fn := fun _ => fun
  | [d1, d2] => { results := [.lit (.bool false)], args := [d1, d2] }
  | _ => none }
def CursorPartsWrongFalsely : Prop := cursorPartsRow.holds Tryz.pinned (OpenSpec.ofChange cursorPartsWrong)

/-- 'budwoodlaw13.TreeEmpties': WHATEVER THE INPUT: true; the input reads as it did. -/
def treeEmptiesSpec : ChangeSpec := { name := "treeEmpties", fn := fun _ => fun
  | [d1, d2] => { results := [.lit (.bool true)], args := [d1, d2] }
  | _ => none }
def treeEmptiesRow : OpenClaim := { program := "ytlphgcjepphhcaagreat", sum := "0470adf60c9385f93bbf6fab3a0f628519fac357144cbdd4cc3d22cbdf38bba1", func := "budwood/budwoodlaw13.TreeEmpties", spec := "treeEmpties", inPlace := ["internal/bytealg.abigen_runtime_cmpstring", "slices.overlaps[string]", "slices.overlaps[int]"], unfollowed := true, recurses := true, apart := false }
def TreeEmptiesSaid : Prop := treeEmptiesRow.holds Tryz.pinned (OpenSpec.ofChange treeEmptiesSpec)

/-- ITS FALSE NEIGHBOUR: 'it returns false'. Refute it at one input. -/
def treeEmptiesWrong : ChangeSpec := { name := "treeEmpties", fn := fun _ => fun
  | [d1, d2] => { results := [.lit (.bool false)], args := [d1, d2] }
  | _ => none }
def TreeEmptiesWrongFalsely : Prop := treeEmptiesRow.holds Tryz.pinned (OpenSpec.ofChange treeEmptiesWrong)

/-- 'budwoodlaw13.TreeDeep': WHATEVER THE INPUT: true; the input reads as it did. -/
def treeDeepSpec : ChangeSpec := { name := "treeDeep", fn := fun _ => fun
  | [d1, d2] => { results := [.lit (.bool true)], args := [d1, d2] }
  | _ => none }
def treeDeepRow : OpenClaim := { program := "ytlphgcjepphhcaagreat", sum := "0470adf60c9385f93bbf6fab3a0f628519fac357144cbdd4cc3d22cbdf38bba1", func := "budwood/budwoodlaw13.TreeDeep", spec := "treeDeep", inPlace := ["internal/bytealg.abigen_runtime_cmpstring", "slices.overlaps[string]", "slices.overlaps[int]"], unfollowed := true, recurses := true, apart := false }
def TreeDeepSaid : Prop := treeDeepRow.holds Tryz.pinned (OpenSpec.ofChange treeDeepSpec)

/-- ITS FALSE NEIGHBOUR: 'it returns false'. Refute it at one input. -/
def treeDeepWrong : ChangeSpec := { name := "treeDeep", fn := fun _ => fun
  | [d1, d2] => { results := [.lit (.bool false)], args := [d1, d2] }
  | _ => none }
def TreeDeepWrongFalsely : Prop := treeDeepRow.holds Tryz.pinned (OpenSpec.ofChange treeDeepWrong)

/-- 'budwoodlaw13.TreeMaps': WHATEVER THE INPUT: true; the input reads as it did. -/
def treeMapsSpec : ChangeSpec := { name := "treeMaps", fn := fun _ => fun
  | [d1, d2] => { results := [.lit (.bool true)], args := [d1, d2] }
  | _ => none }
def treeMapsRow : OpenClaim := { program := "ytlphgcjepphhcaagreat", sum := "0470adf60c9385f93bbf6fab3a0f628519fac357144cbdd4cc3d22cbdf38bba1", func := "budwood/budwoodlaw13.TreeMaps", spec := "treeMaps", inPlace := ["internal/bytealg.abigen_runtime_cmpstring", "slices.overlaps[string]", "slices.overlaps[int]"], unfollowed := true, recurses := true, apart := false }
def TreeMapsSaid : Prop := treeMapsRow.holds Tryz.pinned (OpenSpec.ofChange treeMapsSpec)

/-- ITS FALSE NEIGHBOUR: 'it returns false'. Refute it at one input. -/
def treeMapsWrong : ChangeSpec := { name := "treeMaps", fn := fun _ => fun
  | [d1, d2] => { results := [.lit (.bool false)], args := [d1, d2] }
  | _ => none }
def TreeMapsWrongFalsely : Prop := treeMapsRow.holds Tryz.pinned (OpenSpec.ofChange treeMapsWrong)

/-- 'budwoodlaw13.TreeOther': WHATEVER THE INPUT: true; the input reads as it did. -/
def treeOtherSpec : ChangeSpec := { name := "treeOther", fn := fun _ => fun
  | [d] => { results := [.lit (.bool true)], args := [d] }
  | _ => none }
def treeOtherRow : OpenClaim := { program := "ytlphgcjepphhcaagreat", sum := "0470adf60c9385f93bbf6fab3a0f628519fac357144cbdd4cc3d22cbdf38bba1", func := "budwood/budwoodlaw13.TreeOther", spec := "treeOther", inPlace := ["internal/bytealg.abigen_runtime_cmpstring", "slices.overlaps[string]", "slices.overlaps[int]"], unfollowed := true, recurses := true, apart := false }
def TreeOtherSaid : Prop := treeOtherRow.holds Tryz.pinned (OpenSpec.ofChange treeOtherSpec)

/-- ITS FALSE NEIGHBOUR: 'it returns false'. Refute it at one input. -/
def treeOtherWrong : ChangeSpec := { name := "treeOther", fn := fun _ => fun
  | [d] => { results := [.lit (.bool false)], args := [d] }
  | _ => none }
def TreeOtherWrongFalsely : Prop := treeOtherRow.holds Tryz.pinned (OpenSpec.ofChange treeOtherWrong)

/-- 'budwoodlaw13.TreeDoes': WHATEVER THE INPUT: true; the input reads as it did. -/
def treeDoesSpec : ChangeSpec := { name := "treeDoes", fn := fun _ => fun
  | [d1, d2] => { results := [.lit (.bool true)], args := [d1, d2] }
  | _ => none }
def treeDoesRow : OpenClaim := { program := "ytlphgcjepphhcaagreat", sum := "0470adf60c9385f93bbf6fab3a0f628519fac357144cbdd4cc3d22cbdf38bba1", func := "budwood/budwoodlaw13.TreeDoes", spec := "treeDoes", inPlace := ["internal/bytealg.abigen_runtime_cmpstring", "slices.overlaps[string]", "slices.overlaps[int]"], unfollowed := true, recurses := true, apart := false }
def TreeDoesSaid : Prop := treeDoesRow.holds Tryz.pinned (OpenSpec.ofChange treeDoesSpec)

/-- ITS FALSE NEIGHBOUR: 'it returns false'. Refute it at one input. -/
def treeDoesWrong : ChangeSpec := { name := "treeDoes", fn := fun _ => fun
  | [d1, d2] => { results := [.lit (.bool false)], args := [d1, d2] }
  | _ => none }
def TreeDoesWrongFalsely : Prop := treeDoesRow.holds Tryz.pinned (OpenSpec.ofChange treeDoesWrong)

/-- 'budwoodlaw13.TreeFull': WHATEVER THE INPUT: true; the input reads as it did. -/
def treeFullSpec : ChangeSpec := { name := "treeFull", fn := fun _ => fun
  | [d1, d2] => { results := [.lit (.bool true)], args := [d1, d2] }
  | _ => none }
def treeFullRow : OpenClaim := { program := "ytlphgcjepphhcaagreat", sum := "0470adf60c9385f93bbf6fab3a0f628519fac357144cbdd4cc3d22cbdf38bba1", func := "budwood/budwoodlaw13.TreeFull", spec := "treeFull", inPlace := ["internal/bytealg.abigen_runtime_cmpstring", "maps.clone", "slices.overlaps[string]", "slices.overlaps[int]"], unfollowed := true, recurses := true, apart := false }
def TreeFullSaid : Prop := treeFullRow.holds Tryz.pinned (OpenSpec.ofChange treeFullSpec)

/-- ITS FALSE NEIGHBOUR: 'it returns false'. Refute it at one input. -/
def treeFullWrong : ChangeSpec := { name := "treeFull", fn := fun _ => fun
  | [d1, d2] => { results := [.lit (.bool false)], args := [d1, d2] }
  | _ => none }
def TreeFullWrongFalsely : Prop := treeFullRow.holds Tryz.pinned (OpenSpec.ofChange treeFullWrong)

/- THE SECOND FORM. 'bulk': how many values and letters a reading holds, each counted each time it is reached (what is shared counts as often as it is met; a slice's spare places count too). A statement '..UptoSaid' is the law's where the arguments, and the package variables that the reading takes, are together of bulk at most 1048576: NARROWER than '..Said'. Prove '..Said' where nothing that the law and all that it calls make is longer than what came in: it says more and counts as full. Else prove '..UptoSaid'. A law counts once. -/
mutual
def uptoBulk {H : Type} : DataW H → Nat
  | .lit (.string bytes) => bytes.length + 1
  | .lit _ => 1
  | .nil => 1
  | .ptr d => uptoBulk d + 1
  | .slice elems spare => uptoBulkAll elems + uptoBulkAll spare + 1
  | .agg parts => uptoBulkAll parts + 1
  | .iface _ d => uptoBulk d + 1
  | .map entries => uptoBulkEntries entries + 1
  | .held _ => 1
def uptoBulkAll {H : Type} : List (DataW H) → Nat
  | [] => 0
  | d :: r => uptoBulk d + uptoBulkAll r
def uptoBulkEntries {H : Type} : List (Lit × DataW H) → Nat
  | [] => 0
  | x :: r => uptoBulkEntry x + uptoBulkEntries r
def uptoBulkEntry {H : Type} : Lit × DataW H → Nat
  | (.string bytes, d) => bytes.length + uptoBulk d + 1
  | (_, d) => uptoBulk d + 1
 end
def uptoSmall : (H : Type) → List (DataW H) → Bool := fun _ ds => decide (uptoBulkAll ds ≤ 1048576)
def OpenSpec.upto (s : _root_.Go.ChangeSpec) : _root_.Go.OpenSpec := { _root_.Go.OpenSpec.ofChange s with cond := some uptoSmall }

/-- 'budwoodlaw14.CursorDoes', WHERE WHAT IT READS IS OF BULK AT MOST 1048576: true; the input reads as it did. -/
def cursorDoesUptoRow : OpenClaim := { program := "ytlphgcjepphhcaagreat", sum := "0470adf60c9385f93bbf6fab3a0f628519fac357144cbdd4cc3d22cbdf38bba1", func := "budwood/budwoodlaw14.CursorDoes", spec := "cursorDoes", inPlace := ["internal/bytealg.abigen_runtime_cmpstring", "slices.overlaps[string]", "slices.overlaps[int]"], unfollowed := true, recurses := true, apart := false, narrowed := true }
def CursorDoesUptoSaid : Prop := cursorDoesUptoRow.holds Tryz.pinned (OpenSpec.upto cursorDoesSpec)

/-- 'budwoodlaw14.CursorLoads', WHERE WHAT IT READS IS OF BULK AT MOST 1048576: true; the input reads as it did. -/
def cursorLoadsUptoRow : OpenClaim := { program := "ytlphgcjepphhcaagreat", sum := "0470adf60c9385f93bbf6fab3a0f628519fac357144cbdd4cc3d22cbdf38bba1", func := "budwood/budwoodlaw14.CursorLoads", spec := "cursorLoads", inPlace := ["internal/bytealg.abigen_runtime_cmpstring", "slices.overlaps[string]", "slices.overlaps[int]"], unfollowed := true, recurses := true, apart := false, narrowed := true }
def CursorLoadsUptoSaid : Prop := cursorLoadsUptoRow.holds Tryz.pinned (OpenSpec.upto cursorLoadsSpec)

/-- 'budwoodlaw14.CursorRises', WHERE WHAT IT READS IS OF BULK AT MOST 1048576: true; the input reads as it did. -/
def cursorRisesUptoRow : OpenClaim := { program := "ytlphgcjepphhcaagreat", sum := "0470adf60c9385f93bbf6fab3a0f628519fac357144cbdd4cc3d22cbdf38bba1", func := "budwood/budwoodlaw14.CursorRises", spec := "cursorRises", inPlace := ["internal/bytealg.abigen_runtime_cmpstring", "slices.overlaps[string]", "slices.overlaps[int]"], unfollowed := true, recurses := true, apart := false, narrowed := true }
def CursorRisesUptoSaid : Prop := cursorRisesUptoRow.holds Tryz.pinned (OpenSpec.upto cursorRisesSpec)

/-- 'budwoodlaw14.CursorAll', WHERE WHAT IT READS IS OF BULK AT MOST 1048576: true; the input reads as it did. -/
def cursorAllUptoRow : OpenClaim := { program := "ytlphgcjepphhcaagreat", sum := "0470adf60c9385f93bbf6fab3a0f628519fac357144cbdd4cc3d22cbdf38bba1", func := "budwood/budwoodlaw14.CursorAll", spec := "cursorAll", inPlace := ["internal/bytealg.abigen_runtime_cmpstring", "slices.overlaps[string]", "slices.overlaps[int]"], unfollowed := true, recurses := true, apart := false, narrowed := true }
def CursorAllUptoSaid : Prop := cursorAllUptoRow.holds Tryz.pinned (OpenSpec.upto cursorAllSpec)

/-- 'budwoodlaw14.CursorParts', WHERE WHAT IT READS IS OF BULK AT MOST 1048576: true; the input reads as it did. -/
def cursorPartsUptoRow : OpenClaim := { program := "ytlphgcjepphhcaagreat", sum := "0470adf60c9385f93bbf6fab3a0f628519fac357144cbdd4cc3d22cbdf38bba1", func := "budwood/budwoodlaw14.CursorParts", spec := "cursorParts", inPlace := ["internal/bytealg.abigen_runtime_cmpstring", "slices.overlaps[string]", "slices.overlaps[int]"], unfollowed := true, recurses := true, apart := false, narrowed := true }
def CursorPartsUptoSaid : Prop := cursorPartsUptoRow.holds Tryz.pinned (OpenSpec.upto cursorPartsSpec)

/-- 'budwoodlaw13.TreeEmpties', WHERE WHAT IT READS IS OF BULK AT MOST 1048576: true; the input reads as it did. -/
def treeEmptiesUptoRow : OpenClaim := { program := "ytlphgcjepphhcaagreat", sum := "0470adf60c9385f93bbf6fab3a0f628519fac357144cbdd4cc3d22cbdf38bba1", func := "budwood/budwoodlaw13.TreeEmpties", spec := "treeEmpties", inPlace := ["internal/bytealg.abigen_runtime_cmpstring", "slices.overlaps[string]", "slices.overlaps[int]"], unfollowed := true, recurses := true, apart := false, narrowed := true }
def TreeEmptiesUptoSaid : Prop := treeEmptiesUptoRow.holds Tryz.pinned (OpenSpec.upto treeEmptiesSpec)

/-- 'budwoodlaw13.TreeDeep', WHERE WHAT IT READS IS OF BULK AT MOST 1048576: true; the input reads as it did. -/
def treeDeepUptoRow : OpenClaim := { program := "ytlphgcjepphhcaagreat", sum := "0470adf60c9385f93bbf6fab3a0f628519fac357144cbdd4cc3d22cbdf38bba1", func := "budwood/budwoodlaw13.TreeDeep", spec := "treeDeep", inPlace := ["internal/bytealg.abigen_runtime_cmpstring", "slices.overlaps[string]", "slices.overlaps[int]"], unfollowed := true, recurses := true, apart := false, narrowed := true }
def TreeDeepUptoSaid : Prop := treeDeepUptoRow.holds Tryz.pinned (OpenSpec.upto treeDeepSpec)

/-- 'budwoodlaw13.TreeMaps', WHERE WHAT IT READS IS OF BULK AT MOST 1048576: true; the input reads as it did. -/
def treeMapsUptoRow : OpenClaim := { program := "ytlphgcjepphhcaagreat", sum := "0470adf60c9385f93bbf6fab3a0f628519fac357144cbdd4cc3d22cbdf38bba1", func := "budwood/budwoodlaw13.TreeMaps", spec := "treeMaps", inPlace := ["internal/bytealg.abigen_runtime_cmpstring", "slices.overlaps[string]", "slices.overlaps[int]"], unfollowed := true, recurses := true, apart := false, narrowed := true }
def TreeMapsUptoSaid : Prop := treeMapsUptoRow.holds Tryz.pinned (OpenSpec.upto treeMapsSpec)

/-- 'budwoodlaw13.TreeOther', WHERE WHAT IT READS IS OF BULK AT MOST 1048576: true; the input reads as it did. -/
def treeOtherUptoRow : OpenClaim := { program := "ytlphgcjepphhcaagreat", sum := "0470adf60c9385f93bbf6fab3a0f628519fac357144cbdd4cc3d22cbdf38bba1", func := "budwood/budwoodlaw13.TreeOther", spec := "treeOther", inPlace := ["internal/bytealg.abigen_runtime_cmpstring", "slices.overlaps[string]", "slices.overlaps[int]"], unfollowed := true, recurses := true, apart := false, narrowed := true }
def TreeOtherUptoSaid : Prop := treeOtherUptoRow.holds Tryz.pinned (OpenSpec.upto treeOtherSpec)

/-- 'budwoodlaw13.TreeDoes', WHERE WHAT IT READS IS OF BULK AT MOST 1048576: true; the input reads as it did. -/
def treeDoesUptoRow : OpenClaim := { program := "ytlphgcjepphhcaagreat", sum := "0470adf60c9385f93bbf6fab3a0f628519fac357144cbdd4cc3d22cbdf38bba1", func := "budwood/budwoodlaw13.TreeDoes", spec := "treeDoes", inPlace := ["internal/bytealg.abigen_runtime_cmpstring", "slices.overlaps[string]", "slices.overlaps[int]"], unfollowed := true, recurses := true, apart := false, narrowed := true }
def TreeDoesUptoSaid : Prop := treeDoesUptoRow.holds Tryz.pinned (OpenSpec.upto treeDoesSpec)

/-- 'budwoodlaw13.TreeFull', WHERE WHAT IT READS IS OF BULK AT MOST 1048576: true; the input reads as it did. -/
def treeFullUptoRow : OpenClaim := { program := "ytlphgcjepphhcaagreat", sum := "0470adf60c9385f93bbf6fab3a0f628519fac357144cbdd4cc3d22cbdf38bba1", func := "budwood/budwoodlaw13.TreeFull", spec := "treeFull", inPlace := ["internal/bytealg.abigen_runtime_cmpstring", "maps.clone", "slices.overlaps[string]", "slices.overlaps[int]"], unfollowed := true, recurses := true, apart := false, narrowed := true }
def TreeFullUptoSaid : Prop := treeFullUptoRow.holds Tryz.pinned (OpenSpec.upto treeFullSpec)

end Rows
end Go.Proofs.YtlphgcjepphhcaaGreat
