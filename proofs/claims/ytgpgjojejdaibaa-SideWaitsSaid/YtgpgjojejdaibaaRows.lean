/-
  No cell of these rows narrows 'for every input' (looked for: loops, veiled, ifaces, maps, wideKeys, modest, calm, conditions, laid).
  DERIVED. THE GIVEN ROWS OF THIS SEAT. 6 by the template 'for every input the law returns true; each argument reads behind the call as it read before'; 0 by the template 'total and deterministic' (their statements: YtgpgjojejdaibaaTotals.lean).
  GIVEN WITH THE SEED: the statements are not yours to turn. If you find one false, say at which input.
  Laid BY PROGRAM, IN A SANDBOX (cutbox-rows.mjs): the forced cells as the released guide's own fill.sh prints them over the translation ac4bf0f2ab7f0e38… (all of the seat's roots in one cut). By AI agents, Wed Nov 11 2026. No macro, syntax, notation, axiom, sorry.
-/
import Derived.Test.YtgpgjojejdaibaaChecked
import GoSem.Claim
import GoSem.ClaimJoined
import GoSem.ClaimMapViews
import Derived.JoinedTies
import Derived.KernelRfl
namespace Go.Proofs.Ytgpgjojejdaibaa
/- THE CELL 'sum', in the pinned program and in every row, IS THE sha256 OF THE DUMP (.gsa) THAT YtgpgjojejdaibaaProg.lean LOADS. Nothing in Lean hashes anything: it is a label: what it is worth is what the hold of that sum in a sandbox is worth. -/
noncomputable def Try.pinned : Pinned := { name := "ytgpgjojejdaibaa", sum := "ac4bf0f2ab7f0e387b7e6ff557160510959f750ed9e131086dde38aa05785348", checked := Try.checked }
namespace Rows
def none {H : Type} : Left H := { results := [], args := [] }

/-- 'budwoodlaw19.SideKids': WHATEVER THE INPUT: true; the input reads as it did. -/
def sideKidsSpec : ChangeSpec := { name := "sideKids", fn := fun _ => fun
  | [d1, d2, d3] => { results := [.lit (.bool true)], args := [d1, d2, d3] }
  | _ => none }
def sideKidsRow : OpenClaim := { program := "ytgpgjojejdaibaa", sum := "ac4bf0f2ab7f0e387b7e6ff557160510959f750ed9e131086dde38aa05785348", func := "budwood/budwoodlaw19.SideKids", spec := "sideKids", inPlace := ["slices.overlaps[budwood/build.Kid]"], unfollowed := true, recurses := true, apart := false }
def SideKidsSaid : Prop := sideKidsRow.holds Try.pinned (OpenSpec.ofChange sideKidsSpec)

/-- ITS FALSE NEIGHBOUR: 'it returns false'. Refute it at one input. -/
def sideKidsWrong : ChangeSpec := { name := "sideKids", fn := fun _ => fun
  | [d1, d2, d3] => { results := [.lit (.bool false)], args := [d1, d2, d3] }
  | _ => none }
def SideKidsWrongFalsely : Prop := sideKidsRow.holds Try.pinned (OpenSpec.ofChange sideKidsWrong)

/-- 'budwoodlaw19.SideFile': WHATEVER THE INPUT: true; the input reads as it did. -/
def sideFileSpec : ChangeSpec := { name := "sideFile", fn := fun _ => fun
  | [d1, d2] => { results := [.lit (.bool true)], args := [d1, d2] }
  | _ => none }
def sideFileRow : OpenClaim := { program := "ytgpgjojejdaibaa", sum := "ac4bf0f2ab7f0e387b7e6ff557160510959f750ed9e131086dde38aa05785348", func := "budwood/budwoodlaw19.SideFile", spec := "sideFile", inPlace := ["slices.overlaps[budwood/build.Kid]"], unfollowed := true, recurses := true, apart := false }
def SideFileSaid : Prop := sideFileRow.holds Try.pinned (OpenSpec.ofChange sideFileSpec)

/-- ITS FALSE NEIGHBOUR: 'it returns false'. Refute it at one input. -/
def sideFileWrong : ChangeSpec := { name := "sideFile", fn := fun _ => fun
  | [d1, d2] => { results := [.lit (.bool false)], args := [d1, d2] }
  | _ => none }
def SideFileWrongFalsely : Prop := sideFileRow.holds Try.pinned (OpenSpec.ofChange sideFileWrong)

/-- 'budwoodlaw19.SideParts': WHATEVER THE INPUT: true; the input reads as it did. -/
def sidePartsSpec : ChangeSpec := { name := "sideParts", fn := fun _ => fun
  | [d1, d2, d3] => { results := [.lit (.bool true)], args := [d1, d2, d3] }
  | _ => none }
def sidePartsRow : OpenClaim := { program := "ytgpgjojejdaibaa", sum := "ac4bf0f2ab7f0e387b7e6ff557160510959f750ed9e131086dde38aa05785348", func := "budwood/budwoodlaw19.SideParts", spec := "sideParts", inPlace := ["slices.overlaps[budwood/build.Kid]"], unfollowed := true, recurses := true, apart := false }
def SidePartsSaid : Prop := sidePartsRow.holds Try.pinned (OpenSpec.ofChange sidePartsSpec)

/-- ITS FALSE NEIGHBOUR: 'it returns false'. Refute it at one input. -/
def sidePartsWrong : ChangeSpec := { name := "sideParts", fn := fun _ => fun
  | [d1, d2, d3] => { results := [.lit (.bool false)], args := [d1, d2, d3] }
  | _ => none }
def SidePartsWrongFalsely : Prop := sidePartsRow.holds Try.pinned (OpenSpec.ofChange sidePartsWrong)

/-- 'budwoodlaw19.SideDiff': WHATEVER THE INPUT: true; the input reads as it did. -/
def sideDiffSpec : ChangeSpec := { name := "sideDiff", fn := fun _ => fun
  | [d1, d2] => { results := [.lit (.bool true)], args := [d1, d2] }
  | _ => none }
def sideDiffRow : OpenClaim := { program := "ytgpgjojejdaibaa", sum := "ac4bf0f2ab7f0e387b7e6ff557160510959f750ed9e131086dde38aa05785348", func := "budwood/budwoodlaw19.SideDiff", spec := "sideDiff", inPlace := ["slices.overlaps[budwood/build.Kid]"], unfollowed := true, recurses := true, apart := false }
def SideDiffSaid : Prop := sideDiffRow.holds Try.pinned (OpenSpec.ofChange sideDiffSpec)

/-- ITS FALSE NEIGHBOUR: 'it returns false'. Refute it at one input. -/
def sideDiffWrong : ChangeSpec := { name := "sideDiff", fn := fun _ => fun
  | [d1, d2] => { results := [.lit (.bool false)], args := [d1, d2] }
  | _ => none }
def SideDiffWrongFalsely : Prop := sideDiffRow.holds Try.pinned (OpenSpec.ofChange sideDiffWrong)

/-- 'budwoodlaw19.SideWaits': WHATEVER THE INPUT: true; the input reads as it did. -/
def sideWaitsSpec : ChangeSpec := { name := "sideWaits", fn := fun _ => fun
  | [d1, d2] => { results := [.lit (.bool true)], args := [d1, d2] }
  | _ => none }
def sideWaitsRow : OpenClaim := { program := "ytgpgjojejdaibaa", sum := "ac4bf0f2ab7f0e387b7e6ff557160510959f750ed9e131086dde38aa05785348", func := "budwood/budwoodlaw19.SideWaits", spec := "sideWaits", inPlace := ["slices.overlaps[budwood/build.Kid]"], unfollowed := true, recurses := true, apart := false }
def SideWaitsSaid : Prop := sideWaitsRow.holds Try.pinned (OpenSpec.ofChange sideWaitsSpec)

/-- ITS FALSE NEIGHBOUR: 'it returns false'. Refute it at one input. -/
def sideWaitsWrong : ChangeSpec := { name := "sideWaits", fn := fun _ => fun
  | [d1, d2] => { results := [.lit (.bool false)], args := [d1, d2] }
  | _ => none }
def SideWaitsWrongFalsely : Prop := sideWaitsRow.holds Try.pinned (OpenSpec.ofChange sideWaitsWrong)

/-- 'budwoodlaw19.SideBack': WHATEVER THE INPUT: true; the input reads as it did. -/
def sideBackSpec : ChangeSpec := { name := "sideBack", fn := fun _ => fun
  | [d1, d2, d3] => { results := [.lit (.bool true)], args := [d1, d2, d3] }
  | _ => none }
def sideBackRow : OpenClaim := { program := "ytgpgjojejdaibaa", sum := "ac4bf0f2ab7f0e387b7e6ff557160510959f750ed9e131086dde38aa05785348", func := "budwood/budwoodlaw19.SideBack", spec := "sideBack", inPlace := ["slices.overlaps[budwood/build.Kid]"], unfollowed := true, recurses := true, apart := false }
def SideBackSaid : Prop := sideBackRow.holds Try.pinned (OpenSpec.ofChange sideBackSpec)

/-- ITS FALSE NEIGHBOUR: 'it returns false'. Refute it at one input. -/
def sideBackWrong : ChangeSpec := { name := "sideBack", fn := fun _ => fun
  | [d1, d2, d3] => { results := [.lit (.bool false)], args := [d1, d2, d3] }
  | _ => none }
def SideBackWrongFalsely : Prop := sideBackRow.holds Try.pinned (OpenSpec.ofChange sideBackWrong)

/- THE SECOND FORM. 'bulk': how many values and letters a reading holds, each counted each time it is reached (what is shared counts as often as it is met; a slice's spare places count too). A statement '..UptoSaid' is the law's where the arguments, and the package variables that the reading takes, are together of bulk at most 1048576: NARROWER than '..Said'. Prove '..Said' where nothing that the law and all that it calls make is longer than what came in: it says more and counts as full. Else prove '..UptoSaid'. A law counts once. -/
mutual
def uptoBulk {H : Type} : DataW H → Nat
  | .lit (.string bytes) => bytes.length + 1
  | .lit _ => 1
  | .nil => 1
  | .ptr d => uptoBulk d + 1
  | .slice elems spare => uptoBulkAll elems + uptoBulkAll spare + 1
  | .agg parts => uptoBulkAll parts + 1
  | .iface _ d => uptoBulk d + 1
  | .map entries => uptoBulkEntries entries + 1
  | .held _ => 1
def uptoBulkAll {H : Type} : List (DataW H) → Nat
  | [] => 0
  | d :: r => uptoBulk d + uptoBulkAll r
def uptoBulkEntries {H : Type} : List (Lit × DataW H) → Nat
  | [] => 0
  | x :: r => uptoBulkEntry x + uptoBulkEntries r
def uptoBulkEntry {H : Type} : Lit × DataW H → Nat
  | (.string bytes, d) => bytes.length + uptoBulk d + 1
  | (_, d) => uptoBulk d + 1
 end
def uptoSmall : (H : Type) → List (DataW H) → Bool := fun _ ds => decide (uptoBulkAll ds ≤ 1048576)
def OpenSpec.upto (s : _root_.Go.ChangeSpec) : _root_.Go.OpenSpec := { _root_.Go.OpenSpec.ofChange s with cond := some uptoSmall }

/-- 'budwoodlaw19.SideKids', WHERE WHAT IT READS IS OF BULK AT MOST 1048576: true; the input reads as it did. -/
def sideKidsUptoRow : OpenClaim := { program := "ytgpgjojejdaibaa", sum := "ac4bf0f2ab7f0e387b7e6ff557160510959f750ed9e131086dde38aa05785348", func := "budwood/budwoodlaw19.SideKids", spec := "sideKids", inPlace := ["slices.overlaps[budwood/build.Kid]"], unfollowed := true, recurses := true, apart := false, narrowed := true }
def SideKidsUptoSaid : Prop := sideKidsUptoRow.holds Try.pinned (OpenSpec.upto sideKidsSpec)

/-- 'budwoodlaw19.SideFile', WHERE WHAT IT READS IS OF BULK AT MOST 1048576: true; the input reads as it did. -/
def sideFileUptoRow : OpenClaim := { program := "ytgpgjojejdaibaa", sum := "ac4bf0f2ab7f0e387b7e6ff557160510959f750ed9e131086dde38aa05785348", func := "budwood/budwoodlaw19.SideFile", spec := "sideFile", inPlace := ["slices.overlaps[budwood/build.Kid]"], unfollowed := true, recurses := true, apart := false, narrowed := true }
def SideFileUptoSaid : Prop := sideFileUptoRow.holds Try.pinned (OpenSpec.upto sideFileSpec)

/-- 'budwoodlaw19.SideParts', WHERE WHAT IT READS IS OF BULK AT MOST 1048576: true; the input reads as it did. -/
def sidePartsUptoRow : OpenClaim := { program := "ytgpgjojejdaibaa", sum := "ac4bf0f2ab7f0e387b7e6ff557160510959f750ed9e131086dde38aa05785348", func := "budwood/budwoodlaw19.SideParts", spec := "sideParts", inPlace := ["slices.overlaps[budwood/build.Kid]"], unfollowed := true, recurses := true, apart := false, narrowed := true }
def SidePartsUptoSaid : Prop := sidePartsUptoRow.holds Try.pinned (OpenSpec.upto sidePartsSpec)

/-- 'budwoodlaw19.SideDiff', WHERE WHAT IT READS IS OF BULK AT MOST 1048576: true; the input reads as it did. -/
def sideDiffUptoRow : OpenClaim := { program := "ytgpgjojejdaibaa", sum := "ac4bf0f2ab7f0e387b7e6ff557160510959f750ed9e131086dde38aa05785348", func := "budwood/budwoodlaw19.SideDiff", spec := "sideDiff", inPlace := ["slices.overlaps[budwood/build.Kid]"], unfollowed := true, recurses := true, apart := false, narrowed := true }
def SideDiffUptoSaid : Prop := sideDiffUptoRow.holds Try.pinned (OpenSpec.upto sideDiffSpec)

/-- 'budwoodlaw19.SideWaits', WHERE WHAT IT READS IS OF BULK AT MOST 1048576: true; the input reads as it did. -/
def sideWaitsUptoRow : OpenClaim := { program := "ytgpgjojejdaibaa", sum := "ac4bf0f2ab7f0e387b7e6ff557160510959f750ed9e131086dde38aa05785348", func := "budwood/budwoodlaw19.SideWaits", spec := "sideWaits", inPlace := ["slices.overlaps[budwood/build.Kid]"], unfollowed := true, recurses := true, apart := false, narrowed := true }
def SideWaitsUptoSaid : Prop := sideWaitsUptoRow.holds Try.pinned (OpenSpec.upto sideWaitsSpec)

/-- 'budwoodlaw19.SideBack', WHERE WHAT IT READS IS OF BULK AT MOST 1048576: true; the input reads as it did. -/
def sideBackUptoRow : OpenClaim := { program := "ytgpgjojejdaibaa", sum := "ac4bf0f2ab7f0e387b7e6ff557160510959f750ed9e131086dde38aa05785348", func := "budwood/budwoodlaw19.SideBack", spec := "sideBack", inPlace := ["slices.overlaps[budwood/build.Kid]"], unfollowed := true, recurses := true, apart := false, narrowed := true }
def SideBackUptoSaid : Prop := sideBackUptoRow.holds Try.pinned (OpenSpec.upto sideBackSpec)

end Rows
end Go.Proofs.Ytgpgjojejdaibaa
