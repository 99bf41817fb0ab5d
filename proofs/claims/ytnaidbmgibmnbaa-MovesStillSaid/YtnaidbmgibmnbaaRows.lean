/-
  No cell of these rows narrows 'for every input' (looked for: loops, veiled, ifaces, maps, wideKeys, modest, calm, conditions, laid).
  DERIVED. THE GIVEN ROWS OF THIS SEAT. 5 by the template 'for every input the law returns true; each argument reads behind the call as it read before'; 0 by the template 'total and deterministic' (their statements: YtnaidbmgibmnbaaTotals.lean).
  GIVEN WITH THE SEED: the statements are not yours to turn. If you find one false, say at which input.
  Laid BY PROGRAM, IN A SANDBOX (cutbox-rows.mjs): the forced cells as the released guide's own fill.sh prints them over the translation be2920c443587f3d… (all of the seat's roots in one cut). By AI agents, Wed Nov 11 2026. No macro, syntax, notation, axiom, sorry.
-/
import Derived.Test.YtnaidbmgibmnbaaChecked
import GoSem.Claim
import GoSem.ClaimJoined
import GoSem.ClaimMapViews
import Derived.JoinedTies
import Derived.KernelRfl
namespace Go.Proofs.Ytnaidbmgibmnbaa
/- THE CELL 'sum', in the pinned program and in every row, IS THE sha256 OF THE DUMP (.gsa) THAT YtnaidbmgibmnbaaProg.lean LOADS. Nothing in Lean hashes anything: it is a label: what it is worth is what the hold of that sum in a sandbox is worth. -/
noncomputable def Try.pinned : Pinned := { name := "ytnaidbmgibmnbaa", sum := "be2920c443587f3d20eaa4819ee7e78f42bc144c78d26ebe65e6a4eb847ed234", checked := Try.checked }
namespace Rows
def none {H : Type} : Left H := { results := [], args := [] }

/-- 'budwoodlaw16.MovesTell': WHATEVER THE INPUT: true; the input reads as it did. -/
def movesTellSpec : ChangeSpec := { name := "movesTell", fn := fun _ => fun
  | [d1, d2, d3] => { results := [.lit (.bool true)], args := [d1, d2, d3] }
  | _ => none }
def movesTellRow : OpenClaim := { program := "ytnaidbmgibmnbaa", sum := "be2920c443587f3d20eaa4819ee7e78f42bc144c78d26ebe65e6a4eb847ed234", func := "budwood/budwoodlaw16.MovesTell", spec := "movesTell", unfollowed := true, recurses := true, apart := false }
def MovesTellSaid : Prop := movesTellRow.holds Try.pinned (OpenSpec.ofChange movesTellSpec)

/-- ITS FALSE NEIGHBOUR: 'it returns false'. Refute it at one input. -/
def movesTellWrong : ChangeSpec := { name := "movesTell", fn := fun _ => fun
  | [d1, d2, d3] => { results := [.lit (.bool false)], args := [d1, d2, d3] }
  | _ => none }
def MovesTellWrongFalsely : Prop := movesTellRow.holds Try.pinned (OpenSpec.ofChange movesTellWrong)

/-- 'budwoodlaw16.MovesSort': WHATEVER THE INPUT: true; the input reads as it did. -/
def movesSortSpec : ChangeSpec := { name := "movesSort", fn := fun _ => fun
  | [d] => { results := [.lit (.bool true)], args := [d] }
  | _ => none }
def movesSortRow : OpenClaim := { program := "ytnaidbmgibmnbaa", sum := "be2920c443587f3d20eaa4819ee7e78f42bc144c78d26ebe65e6a4eb847ed234", func := "budwood/budwoodlaw16.MovesSort", spec := "movesSort", unfollowed := true, recurses := true, apart := false }
def MovesSortSaid : Prop := movesSortRow.holds Try.pinned (OpenSpec.ofChange movesSortSpec)

/-- ITS FALSE NEIGHBOUR: 'it returns false'. Refute it at one input. -/
def movesSortWrong : ChangeSpec := { name := "movesSort", fn := fun _ => fun
  | [d] => { results := [.lit (.bool false)], args := [d] }
  | _ => none }
def MovesSortWrongFalsely : Prop := movesSortRow.holds Try.pinned (OpenSpec.ofChange movesSortWrong)

/-- 'budwoodlaw16.MovesInto': WHATEVER THE INPUT: true; the input reads as it did. -/
def movesIntoSpec : ChangeSpec := { name := "movesInto", fn := fun _ => fun
  | [d1, d2] => { results := [.lit (.bool true)], args := [d1, d2] }
  | _ => none }
def movesIntoRow : OpenClaim := { program := "ytnaidbmgibmnbaa", sum := "be2920c443587f3d20eaa4819ee7e78f42bc144c78d26ebe65e6a4eb847ed234", func := "budwood/budwoodlaw16.MovesInto", spec := "movesInto", unfollowed := true, recurses := true, apart := false }
def MovesIntoSaid : Prop := movesIntoRow.holds Try.pinned (OpenSpec.ofChange movesIntoSpec)

/-- ITS FALSE NEIGHBOUR: 'it returns false'. Refute it at one input. -/
def movesIntoWrong : ChangeSpec := { name := "movesInto", fn := fun _ => fun
  | [d1, d2] => { results := [.lit (.bool false)], args := [d1, d2] }
  | _ => none }
def MovesIntoWrongFalsely : Prop := movesIntoRow.holds Try.pinned (OpenSpec.ofChange movesIntoWrong)

/-- 'budwoodlaw16.MovesBack': WHATEVER THE INPUT: true; the input reads as it did. -/
def movesBackSpec : ChangeSpec := { name := "movesBack", fn := fun _ => fun
  | [d1, d2] => { results := [.lit (.bool true)], args := [d1, d2] }
  | _ => none }
def movesBackRow : OpenClaim := { program := "ytnaidbmgibmnbaa", sum := "be2920c443587f3d20eaa4819ee7e78f42bc144c78d26ebe65e6a4eb847ed234", func := "budwood/budwoodlaw16.MovesBack", spec := "movesBack", unfollowed := true, recurses := true, apart := false }
def MovesBackSaid : Prop := movesBackRow.holds Try.pinned (OpenSpec.ofChange movesBackSpec)

/-- ITS FALSE NEIGHBOUR: 'it returns false'. Refute it at one input. -/
def movesBackWrong : ChangeSpec := { name := "movesBack", fn := fun _ => fun
  | [d1, d2] => { results := [.lit (.bool false)], args := [d1, d2] }
  | _ => none }
def MovesBackWrongFalsely : Prop := movesBackRow.holds Try.pinned (OpenSpec.ofChange movesBackWrong)

/-- 'budwoodlaw16.MovesStill': WHATEVER THE INPUT: true; the input reads as it did. -/
def movesStillSpec : ChangeSpec := { name := "movesStill", fn := fun _ => fun
  | [d] => { results := [.lit (.bool true)], args := [d] }
  | _ => none }
def movesStillRow : OpenClaim := { program := "ytnaidbmgibmnbaa", sum := "be2920c443587f3d20eaa4819ee7e78f42bc144c78d26ebe65e6a4eb847ed234", func := "budwood/budwoodlaw16.MovesStill", spec := "movesStill", unfollowed := true, recurses := true, apart := false }
def MovesStillSaid : Prop := movesStillRow.holds Try.pinned (OpenSpec.ofChange movesStillSpec)

/-- ITS FALSE NEIGHBOUR: 'it returns false'. Refute it at one input. -/
def movesStillWrong : ChangeSpec := { name := "movesStill", fn := fun _ => fun
  | [d] => { results := [.lit (.bool false)], args := [d] }
  | _ => none }
def MovesStillWrongFalsely : Prop := movesStillRow.holds Try.pinned (OpenSpec.ofChange movesStillWrong)

/- THE SECOND FORM. 'bulk': how many values and letters a reading holds, each counted each time it is reached (what is shared counts as often as it is met; a slice's spare places count too). A statement '..UptoSaid' is the law's where the arguments, and the package variables that the reading takes, are together of bulk at most 1048576: NARROWER than '..Said'. Prove '..Said' where nothing that the law and all that it calls make is longer than what came in: it says more and counts as full. Else prove '..UptoSaid'. A law counts once. -/
mutual
def uptoBulk {H : Type} : DataW H → Nat
  | .lit (.string bytes) => bytes.length + 1
  | .lit _ => 1
  | .nil => 1
  | .ptr d => uptoBulk d + 1
  | .slice elems spare => uptoBulkAll elems + uptoBulkAll spare + 1
  | .agg parts => uptoBulkAll parts + 1
  | .iface _ d => uptoBulk d + 1
  | .map entries => uptoBulkEntries entries + 1
  | .held _ => 1
def uptoBulkAll {H : Type} : List (DataW H) → Nat
  | [] => 0
  | d :: r => uptoBulk d + uptoBulkAll r
def uptoBulkEntries {H : Type} : List (Lit × DataW H) → Nat
  | [] => 0
  | x :: r => uptoBulkEntry x + uptoBulkEntries r
def uptoBulkEntry {H : Type} : Lit × DataW H → Nat
  | (.string bytes, d) => bytes.length + uptoBulk d + 1
  | (_, d) => uptoBulk d + 1
 end
def uptoSmall : (H : Type) → List (DataW H) → Bool := fun _ ds => decide (uptoBulkAll ds ≤ 1048576)
def OpenSpec.upto (s : _root_.Go.ChangeSpec) : _root_.Go.OpenSpec := { _root_.Go.OpenSpec.ofChange s with cond := some uptoSmall }

/-- 'budwoodlaw16.MovesTell', WHERE WHAT IT READS IS OF BULK AT MOST 1048576: true; the input reads as it did. -/
def movesTellUptoRow : OpenClaim := { program := "ytnaidbmgibmnbaa", sum := "be2920c443587f3d20eaa4819ee7e78f42bc144c78d26ebe65e6a4eb847ed234", func := "budwood/budwoodlaw16.MovesTell", spec := "movesTell", unfollowed := true, recurses := true, apart := false, narrowed := true }
def MovesTellUptoSaid : Prop := movesTellUptoRow.holds Try.pinned (OpenSpec.upto movesTellSpec)

/-- 'budwoodlaw16.MovesSort', WHERE WHAT IT READS IS OF BULK AT MOST 1048576: true; the input reads as it did. -/
def movesSortUptoRow : OpenClaim := { program := "ytnaidbmgibmnbaa", sum := "be2920c443587f3d20eaa4819ee7e78f42bc144c78d26ebe65e6a4eb847ed234", func := "budwood/budwoodlaw16.MovesSort", spec := "movesSort", unfollowed := true, recurses := true, apart := false, narrowed := true }
def MovesSortUptoSaid : Prop := movesSortUptoRow.holds Try.pinned (OpenSpec.upto movesSortSpec)

/-- 'budwoodlaw16.MovesInto', WHERE WHAT IT READS IS OF BULK AT MOST 1048576: true; the input reads as it did. -/
def movesIntoUptoRow : OpenClaim := { program := "ytnaidbmgibmnbaa", sum := "be2920c443587f3d20eaa4819ee7e78f42bc144c78d26ebe65e6a4eb847ed234", func := "budwood/budwoodlaw16.MovesInto", spec := "movesInto", unfollowed := true, recurses := true, apart := false, narrowed := true }
def MovesIntoUptoSaid : Prop := movesIntoUptoRow.holds Try.pinned (OpenSpec.upto movesIntoSpec)

/-- 'budwoodlaw16.MovesBack', WHERE WHAT IT READS IS OF BULK AT MOST 1048576: true; the input reads as it did. -/
def movesBackUptoRow : OpenClaim := { program := "ytnaidbmgibmnbaa", sum := "be2920c443587f3d20eaa4819ee7e78f42bc144c78d26ebe65e6a4eb847ed234", func := "budwood/budwoodlaw16.MovesBack", spec := "movesBack", unfollowed := true, recurses := true, apart := false, narrowed := true }
def MovesBackUptoSaid : Prop := movesBackUptoRow.holds Try.pinned (OpenSpec.upto movesBackSpec)

/-- 'budwoodlaw16.MovesStill', WHERE WHAT IT READS IS OF BULK AT MOST 1048576: true; the input reads as it did. -/
def movesStillUptoRow : OpenClaim := { program := "ytnaidbmgibmnbaa", sum := "be2920c443587f3d20eaa4819ee7e78f42bc144c78d26ebe65e6a4eb847ed234", func := "budwood/budwoodlaw16.MovesStill", spec := "movesStill", unfollowed := true, recurses := true, apart := false, narrowed := true }
def MovesStillUptoSaid : Prop := movesStillUptoRow.holds Try.pinned (OpenSpec.upto movesStillSpec)

end Rows
end Go.Proofs.Ytnaidbmgibmnbaa
