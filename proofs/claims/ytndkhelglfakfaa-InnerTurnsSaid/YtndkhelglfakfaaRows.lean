/-
  No cell of these rows narrows 'for every input' (looked for: loops, veiled, ifaces, maps, wideKeys, modest, calm, conditions, laid).
  DERIVED. THE GIVEN ROWS OF THIS SEAT. 7 by the template 'for every input the law returns true; each argument reads behind the call as it read before'; 0 by the template 'total and deterministic' (their statements: YtndkhelglfakfaaTotals.lean).
  GIVEN WITH THE SEED: the statements are not yours to turn. If you find one false, say at which input.
  Laid BY PROGRAM, IN A SANDBOX (cutbox-rows.mjs): the forced cells as the released guide's own fill.sh prints them over the translation 385982d6a198c82b… (all of the seat's roots in one cut). By AI agents, Wed Nov 11 2026. No macro, syntax, notation, axiom, sorry.
-/
import Derived.Test.YtndkhelglfakfaaChecked
import GoSem.Claim
import GoSem.ClaimJoined
import GoSem.ClaimMapViews
import Derived.JoinedTies
import Derived.KernelRfl
namespace Go.Proofs.Ytndkhelglfakfaa
/- THE CELL 'sum', in the pinned program and in every row, IS THE sha256 OF THE DUMP (.gsa) THAT YtndkhelglfakfaaProg.lean LOADS. Nothing in Lean hashes anything: it is a label: what it is worth is what the hold of that sum in a sandbox is worth. -/
noncomputable def Try.pinned : Pinned := { name := "ytndkhelglfakfaa", sum := "385982d6a198c82b747e3c8389f8db059ef4301142746fb044f6e5c96f47bac3", checked := Try.checked }
namespace Rows
def none {H : Type} : Left H := { results := [], args := [] }

/-- 'budwoodlaw11.InnerPuts': WHATEVER THE INPUT: true; the input reads as it did. -/
def innerPutsSpec : ChangeSpec := { name := "innerPuts", fn := fun _ => fun
  | [d1, d2, d3] => { results := [.lit (.bool true)], args := [d1, d2, d3] }
  | _ => none }
def innerPutsRow : OpenClaim := { program := "ytndkhelglfakfaa", sum := "385982d6a198c82b747e3c8389f8db059ef4301142746fb044f6e5c96f47bac3", func := "budwood/budwoodlaw11.InnerPuts", spec := "innerPuts", inPlace := ["slices.overlaps[string]", "slices.overlaps[int]"], unfollowed := true, recurses := true, apart := false }
def InnerPutsSaid : Prop := innerPutsRow.holds Try.pinned (OpenSpec.ofChange innerPutsSpec)

/-- ITS FALSE NEIGHBOUR: 'it returns false'. Refute it at one input. -/
def innerPutsWrong : ChangeSpec := { name := "innerPuts", fn := fun _ => fun
  | [d1, d2, d3] => { results := [.lit (.bool false)], args := [d1, d2, d3] }
  | _ => none }
def InnerPutsWrongFalsely : Prop := innerPutsRow.holds Try.pinned (OpenSpec.ofChange innerPutsWrong)

/-- 'budwoodlaw11.InnerDoes': WHATEVER THE INPUT: true; the input reads as it did. -/
def innerDoesSpec : ChangeSpec := { name := "innerDoes", fn := fun _ => fun
  | [d1, d2, d3] => { results := [.lit (.bool true)], args := [d1, d2, d3] }
  | _ => none }
def innerDoesRow : OpenClaim := { program := "ytndkhelglfakfaa", sum := "385982d6a198c82b747e3c8389f8db059ef4301142746fb044f6e5c96f47bac3", func := "budwood/budwoodlaw11.InnerDoes", spec := "innerDoes", inPlace := ["slices.overlaps[string]", "slices.overlaps[int]"], unfollowed := true, recurses := true, apart := false }
def InnerDoesSaid : Prop := innerDoesRow.holds Try.pinned (OpenSpec.ofChange innerDoesSpec)

/-- ITS FALSE NEIGHBOUR: 'it returns false'. Refute it at one input. -/
def innerDoesWrong : ChangeSpec := { name := "innerDoes", fn := fun _ => fun
  | [d1, d2, d3] => { results := [.lit (.bool false)], args := [d1, d2, d3] }
  | _ => none }
def InnerDoesWrongFalsely : Prop := innerDoesRow.holds Try.pinned (OpenSpec.ofChange innerDoesWrong)

/-- 'budwoodlaw11.InnerBack': WHATEVER THE INPUT: true; the input reads as it did. -/
def innerBackSpec : ChangeSpec := { name := "innerBack", fn := fun _ => fun
  | [d1, d2] => { results := [.lit (.bool true)], args := [d1, d2] }
  | _ => none }
def innerBackRow : OpenClaim := { program := "ytndkhelglfakfaa", sum := "385982d6a198c82b747e3c8389f8db059ef4301142746fb044f6e5c96f47bac3", func := "budwood/budwoodlaw11.InnerBack", spec := "innerBack", inPlace := ["slices.overlaps[string]", "slices.overlaps[int]"], unfollowed := true, recurses := true, apart := false }
def InnerBackSaid : Prop := innerBackRow.holds Try.pinned (OpenSpec.ofChange innerBackSpec)

/-- ITS FALSE NEIGHBOUR: 'it returns false'. Refute it at one input. -/
def innerBackWrong : ChangeSpec := { name := "innerBack", fn := fun _ => fun
  | [d1, d2] => { results := [.lit (.bool false)], args := [d1, d2] }
  | _ => none }
def InnerBackWrongFalsely : Prop := innerBackRow.holds Try.pinned (OpenSpec.ofChange innerBackWrong)

/-- 'budwoodlaw11.InnerLeads': WHATEVER THE INPUT: true; the input reads as it did. -/
def innerLeadsSpec : ChangeSpec := { name := "innerLeads", fn := fun _ => fun
  | [d1, d2, d3] => { results := [.lit (.bool true)], args := [d1, d2, d3] }
  | _ => none }
def innerLeadsRow : OpenClaim := { program := "ytndkhelglfakfaa", sum := "385982d6a198c82b747e3c8389f8db059ef4301142746fb044f6e5c96f47bac3", func := "budwood/budwoodlaw11.InnerLeads", spec := "innerLeads", inPlace := ["slices.overlaps[string]", "slices.overlaps[int]"], unfollowed := true, recurses := true, apart := false }
def InnerLeadsSaid : Prop := innerLeadsRow.holds Try.pinned (OpenSpec.ofChange innerLeadsSpec)

/-- ITS FALSE NEIGHBOUR: 'it returns false'. Refute it at one input. -/
def innerLeadsWrong : ChangeSpec := { name := "innerLeads", fn := fun _ => fun
  | [d1, d2, d3] => { results := [.lit (.bool false)], args := [d1, d2, d3] }
  | _ => none }
def InnerLeadsWrongFalsely : Prop := innerLeadsRow.holds Try.pinned (OpenSpec.ofChange innerLeadsWrong)

/-- 'budwoodlaw11.InnerSplits': WHATEVER THE INPUT: true; the input reads as it did. -/
def innerSplitsSpec : ChangeSpec := { name := "innerSplits", fn := fun _ => fun
  | [d1, d2, d3] => { results := [.lit (.bool true)], args := [d1, d2, d3] }
  | _ => none }
def innerSplitsRow : OpenClaim := { program := "ytndkhelglfakfaa", sum := "385982d6a198c82b747e3c8389f8db059ef4301142746fb044f6e5c96f47bac3", func := "budwood/budwoodlaw11.InnerSplits", spec := "innerSplits", inPlace := ["slices.overlaps[string]", "slices.overlaps[int]"], unfollowed := true, recurses := true, apart := false }
def InnerSplitsSaid : Prop := innerSplitsRow.holds Try.pinned (OpenSpec.ofChange innerSplitsSpec)

/-- ITS FALSE NEIGHBOUR: 'it returns false'. Refute it at one input. -/
def innerSplitsWrong : ChangeSpec := { name := "innerSplits", fn := fun _ => fun
  | [d1, d2, d3] => { results := [.lit (.bool false)], args := [d1, d2, d3] }
  | _ => none }
def InnerSplitsWrongFalsely : Prop := innerSplitsRow.holds Try.pinned (OpenSpec.ofChange innerSplitsWrong)

/-- 'budwoodlaw11.InnerAll': WHATEVER THE INPUT: true; the input reads as it did. -/
def innerAllSpec : ChangeSpec := { name := "innerAll", fn := fun _ => fun
  | [d1, d2] => { results := [.lit (.bool true)], args := [d1, d2] }
  | _ => none }
def innerAllRow : OpenClaim := { program := "ytndkhelglfakfaa", sum := "385982d6a198c82b747e3c8389f8db059ef4301142746fb044f6e5c96f47bac3", func := "budwood/budwoodlaw11.InnerAll", spec := "innerAll", inPlace := ["slices.overlaps[string]", "slices.overlaps[int]"], unfollowed := true, recurses := true, apart := false }
def InnerAllSaid : Prop := innerAllRow.holds Try.pinned (OpenSpec.ofChange innerAllSpec)

/-- ITS FALSE NEIGHBOUR: 'it returns false'. Refute it at one input. -/
def innerAllWrong : ChangeSpec := { name := "innerAll", fn := fun _ => fun
  | [d1, d2] => { results := [.lit (.bool false)], args := [d1, d2] }
  | _ => none }
def InnerAllWrongFalsely : Prop := innerAllRow.holds Try.pinned (OpenSpec.ofChange innerAllWrong)

/-- 'budwoodlaw11.InnerTurns': WHATEVER THE INPUT: true; the input reads as it did. -/
def innerTurnsSpec : ChangeSpec := { name := "innerTurns", fn := fun _ => fun
  | [d1, d2, d3] => { results := [.lit (.bool true)], args := [d1, d2, d3] }
  | _ => none }
def innerTurnsRow : OpenClaim := { program := "ytndkhelglfakfaa", sum := "385982d6a198c82b747e3c8389f8db059ef4301142746fb044f6e5c96f47bac3", func := "budwood/budwoodlaw11.InnerTurns", spec := "innerTurns", inPlace := ["slices.overlaps[string]", "slices.overlaps[int]"], unfollowed := true, recurses := true, apart := false }
def InnerTurnsSaid : Prop := innerTurnsRow.holds Try.pinned (OpenSpec.ofChange innerTurnsSpec)

/-- ITS FALSE NEIGHBOUR: 'it returns false'. Refute it at one input. -/
def innerTurnsWrong : ChangeSpec := { name := "innerTurns", fn := fun _ => fun
  | [d1, d2, d3] => { results := [.lit (.bool false)], args := [d1, d2, d3] }
  | _ => none }
def InnerTurnsWrongFalsely : Prop := innerTurnsRow.holds Try.pinned (OpenSpec.ofChange innerTurnsWrong)

/- THE SECOND FORM. 'bulk': how many values and letters a reading holds, each counted each time it is reached (what is shared counts as often as it is met; a slice's spare places count too). A statement '..UptoSaid' is the law's where the arguments, and the package variables that the reading takes, are together of bulk at most 1048576: NARROWER than '..Said'. Prove '..Said' where nothing that the law and all that it calls make is longer than what came in: it says more and counts as full. Else prove '..UptoSaid'. A law counts once. -/
mutual
def uptoBulk {H : Type} : DataW H → Nat
  | .lit (.string bytes) => bytes.length + 1
  | .lit _ => 1
  | .nil => 1
  | .ptr d => uptoBulk d + 1
  | .slice elems spare => uptoBulkAll elems + uptoBulkAll spare + 1
  | .agg parts => uptoBulkAll parts + 1
  | .iface _ d => uptoBulk d + 1
  | .map entries => uptoBulkEntries entries + 1
  | .held _ => 1
def uptoBulkAll {H : Type} : List (DataW H) → Nat
  | [] => 0
  | d :: r => uptoBulk d + uptoBulkAll r
def uptoBulkEntries {H : Type} : List (Lit × DataW H) → Nat
  | [] => 0
  | x :: r => uptoBulkEntry x + uptoBulkEntries r
def uptoBulkEntry {H : Type} : Lit × DataW H → Nat
  | (.string bytes, d) => bytes.length + uptoBulk d + 1
  | (_, d) => uptoBulk d + 1
 end
def uptoSmall : (H : Type) → List (DataW H) → Bool := fun _ ds => decide (uptoBulkAll ds ≤ 1048576)
def OpenSpec.upto (s : _root_.Go.ChangeSpec) : _root_.Go.OpenSpec := { _root_.Go.OpenSpec.ofChange s with cond := some uptoSmall }

/-- 'budwoodlaw11.InnerPuts', WHERE WHAT IT READS IS OF BULK AT MOST 1048576: true; the input reads as it did. -/
def innerPutsUptoRow : OpenClaim := { program := "ytndkhelglfakfaa", sum := "385982d6a198c82b747e3c8389f8db059ef4301142746fb044f6e5c96f47bac3", func := "budwood/budwoodlaw11.InnerPuts", spec := "innerPuts", inPlace := ["slices.overlaps[string]", "slices.overlaps[int]"], unfollowed := true, recurses := true, apart := false, narrowed := true }
def InnerPutsUptoSaid : Prop := innerPutsUptoRow.holds Try.pinned (OpenSpec.upto innerPutsSpec)

/-- 'budwoodlaw11.InnerDoes', WHERE WHAT IT READS IS OF BULK AT MOST 1048576: true; the input reads as it did. -/
def innerDoesUptoRow : OpenClaim := { program := "ytndkhelglfakfaa", sum := "385982d6a198c82b747e3c8389f8db059ef4301142746fb044f6e5c96f47bac3", func := "budwood/budwoodlaw11.InnerDoes", spec := "innerDoes", inPlace := ["slices.overlaps[string]", "slices.overlaps[int]"], unfollowed := true, recurses := true, apart := false, narrowed := true }
def InnerDoesUptoSaid : Prop := innerDoesUptoRow.holds Try.pinned (OpenSpec.upto innerDoesSpec)

/-- 'budwoodlaw11.InnerBack', WHERE WHAT IT READS IS OF BULK AT MOST 1048576: true; the input reads as it did. -/
def innerBackUptoRow : OpenClaim := { program := "ytndkhelglfakfaa", sum := "385982d6a198c82b747e3c8389f8db059ef4301142746fb044f6e5c96f47bac3", func := "budwood/budwoodlaw11.InnerBack", spec := "innerBack", inPlace := ["slices.overlaps[string]", "slices.overlaps[int]"], unfollowed := true, recurses := true, apart := false, narrowed := true }
def InnerBackUptoSaid : Prop := innerBackUptoRow.holds Try.pinned (OpenSpec.upto innerBackSpec)

/-- 'budwoodlaw11.InnerLeads', WHERE WHAT IT READS IS OF BULK AT MOST 1048576: true; the input reads as it did. -/
def innerLeadsUptoRow : OpenClaim := { program := "ytndkhelglfakfaa", sum := "385982d6a198c82b747e3c8389f8db059ef4301142746fb044f6e5c96f47bac3", func := "budwood/budwoodlaw11.InnerLeads", spec := "innerLeads", inPlace := ["slices.overlaps[string]", "slices.overlaps[int]"], unfollowed := true, recurses := true, apart := false, narrowed := true }
def InnerLeadsUptoSaid : Prop := innerLeadsUptoRow.holds Try.pinned (OpenSpec.upto innerLeadsSpec)

/-- 'budwoodlaw11.InnerSplits', WHERE WHAT IT READS IS OF BULK AT MOST 1048576: true; the input reads as it did. -/
def innerSplitsUptoRow : OpenClaim := { program := "ytndkhelglfakfaa", sum := "385982d6a198c82b747e3c8389f8db059ef4301142746fb044f6e5c96f47bac3", func := "budwood/budwoodlaw11.InnerSplits", spec := "innerSplits", inPlace := ["slices.overlaps[string]", "slices.overlaps[int]"], unfollowed := true, recurses := true, apart := false, narrowed := true }
def InnerSplitsUptoSaid : Prop := innerSplitsUptoRow.holds Try.pinned (OpenSpec.upto innerSplitsSpec)

/-- 'budwoodlaw11.InnerAll', WHERE WHAT IT READS IS OF BULK AT MOST 1048576: true; the input reads as it did. -/
def innerAllUptoRow : OpenClaim := { program := "ytndkhelglfakfaa", sum := "385982d6a198c82b747e3c8389f8db059ef4301142746fb044f6e5c96f47bac3", func := "budwood/budwoodlaw11.InnerAll", spec := "innerAll", inPlace := ["slices.overlaps[string]", "slices.overlaps[int]"], unfollowed := true, recurses := true, apart := false, narrowed := true }
def InnerAllUptoSaid : Prop := innerAllUptoRow.holds Try.pinned (OpenSpec.upto innerAllSpec)

/-- 'budwoodlaw11.InnerTurns', WHERE WHAT IT READS IS OF BULK AT MOST 1048576: true; the input reads as it did. -/
def innerTurnsUptoRow : OpenClaim := { program := "ytndkhelglfakfaa", sum := "385982d6a198c82b747e3c8389f8db059ef4301142746fb044f6e5c96f47bac3", func := "budwood/budwoodlaw11.InnerTurns", spec := "innerTurns", inPlace := ["slices.overlaps[string]", "slices.overlaps[int]"], unfollowed := true, recurses := true, apart := false, narrowed := true }
def InnerTurnsUptoSaid : Prop := innerTurnsUptoRow.holds Try.pinned (OpenSpec.upto innerTurnsSpec)

end Rows
end Go.Proofs.Ytndkhelglfakfaa
