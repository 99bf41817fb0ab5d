/-
  No cell of these rows narrows 'for every input' (looked for: loops, veiled, ifaces, maps, wideKeys, modest, calm, conditions, laid).
  DERIVED. THE GIVEN ROWS OF THIS SEAT. 6 by the template 'for every input the law returns true; each argument reads behind the call as it read before'; 0 by the template 'total and deterministic' (their statements: YtpkeiaeaonmacaaTotals.lean).
  GIVEN WITH THE SEED: the statements are not yours to turn. If you find one false, say at which input.
  Laid BY PROGRAM, IN A SANDBOX (cutbox-rows.mjs): the forced cells as the released guide's own fill.sh prints them over the translation 2521bf0b577892f8… (all of the seat's roots in one cut). By AI agents, Wed Nov 11 2026. No macro, syntax, notation, axiom, sorry.
-/
import Derived.Test.YtpkeiaeaonmacaaChecked
import GoSem.Claim
import GoSem.ClaimJoined
import GoSem.ClaimMapViews
import Derived.JoinedTies
import Derived.KernelRfl
namespace Go.Proofs.Ytpkeiaeaonmacaa
/- THE CELL 'sum', in the pinned program and in every row, IS THE sha256 OF THE DUMP (.gsa) THAT YtpkeiaeaonmacaaProg.lean LOADS. Nothing in Lean hashes anything: it is a label: what it is worth is what the hold of that sum in a sandbox is worth. -/
noncomputable def Try.pinned : Pinned := { name := "ytpkeiaeaonmacaa", sum := "2521bf0b577892f88aaeac70576e3e9348b212670915c41096a9b791a48cce45", checked := Try.checked }
namespace Rows
def none {H : Type} : Left H := { results := [], args := [] }

/-- 'budwoodlaw09.LockFits': WHATEVER THE INPUT: true; the input reads as it did. -/
def lockFitsSpec : ChangeSpec := { name := "lockFits", fn := fun _ => fun
  | [d] => { results := [.lit (.bool true)], args := [d] }
  | _ => none }
def lockFitsRow : OpenClaim := { program := "ytpkeiaeaonmacaa", sum := "2521bf0b577892f88aaeac70576e3e9348b212670915c41096a9b791a48cce45", func := "budwood/budwoodlaw09.LockFits", spec := "lockFits", inPlace := ["slices.overlaps[budwood/lock.wait]"], unfollowed := true, recurses := true, apart := false }
def LockFitsSaid : Prop := lockFitsRow.holds Try.pinned (OpenSpec.ofChange lockFitsSpec)

/-- ITS FALSE NEIGHBOUR: 'it returns false'. Refute it at one input. -/
def lockFitsWrong : ChangeSpec := { name := "lockFits", fn := fun _ => fun
  | [d] => { results := [.lit (.bool false)], args := [d] }
  | _ => none }
def LockFitsWrongFalsely : Prop := lockFitsRow.holds Try.pinned (OpenSpec.ofChange lockFitsWrong)

/-- 'budwoodlaw09.LockLives': WHATEVER THE INPUT: true; the input reads as it did. -/
def lockLivesSpec : ChangeSpec := { name := "lockLives", fn := fun _ => fun
  | [d] => { results := [.lit (.bool true)], args := [d] }
  | _ => none }
def lockLivesRow : OpenClaim := { program := "ytpkeiaeaonmacaa", sum := "2521bf0b577892f88aaeac70576e3e9348b212670915c41096a9b791a48cce45", func := "budwood/budwoodlaw09.LockLives", spec := "lockLives", inPlace := ["slices.overlaps[budwood/lock.wait]"], unfollowed := true, recurses := true, apart := false }
def LockLivesSaid : Prop := lockLivesRow.holds Try.pinned (OpenSpec.ofChange lockLivesSpec)

/-- ITS FALSE NEIGHBOUR: 'it returns false'. Refute it at one input. -/
def lockLivesWrong : ChangeSpec := { name := "lockLives", fn := fun _ => fun
  | [d] => { results := [.lit (.bool false)], args := [d] }
  | _ => none }
def LockLivesWrongFalsely : Prop := lockLivesRow.holds Try.pinned (OpenSpec.ofChange lockLivesWrong)

/-- 'budwoodlaw09.LockDead': WHATEVER THE INPUT: true; the input reads as it did. -/
def lockDeadSpec : ChangeSpec := { name := "lockDead", fn := fun _ => fun
  | [d] => { results := [.lit (.bool true)], args := [d] }
  | _ => none }
def lockDeadRow : OpenClaim := { program := "ytpkeiaeaonmacaa", sum := "2521bf0b577892f88aaeac70576e3e9348b212670915c41096a9b791a48cce45", func := "budwood/budwoodlaw09.LockDead", spec := "lockDead", inPlace := ["slices.overlaps[budwood/lock.wait]"], unfollowed := true, recurses := true, apart := false }
def LockDeadSaid : Prop := lockDeadRow.holds Try.pinned (OpenSpec.ofChange lockDeadSpec)

/-- ITS FALSE NEIGHBOUR: 'it returns false'. Refute it at one input. -/
def lockDeadWrong : ChangeSpec := { name := "lockDead", fn := fun _ => fun
  | [d] => { results := [.lit (.bool false)], args := [d] }
  | _ => none }
def LockDeadWrongFalsely : Prop := lockDeadRow.holds Try.pinned (OpenSpec.ofChange lockDeadWrong)

/-- 'budwoodlaw09.LockTurn': WHATEVER THE INPUT: true; the input reads as it did. -/
def lockTurnSpec : ChangeSpec := { name := "lockTurn", fn := fun _ => fun
  | [d] => { results := [.lit (.bool true)], args := [d] }
  | _ => none }
def lockTurnRow : OpenClaim := { program := "ytpkeiaeaonmacaa", sum := "2521bf0b577892f88aaeac70576e3e9348b212670915c41096a9b791a48cce45", func := "budwood/budwoodlaw09.LockTurn", spec := "lockTurn", inPlace := ["slices.overlaps[budwood/lock.wait]"], unfollowed := true, recurses := true, apart := false }
def LockTurnSaid : Prop := lockTurnRow.holds Try.pinned (OpenSpec.ofChange lockTurnSpec)

/-- ITS FALSE NEIGHBOUR: 'it returns false'. Refute it at one input. -/
def lockTurnWrong : ChangeSpec := { name := "lockTurn", fn := fun _ => fun
  | [d] => { results := [.lit (.bool false)], args := [d] }
  | _ => none }
def LockTurnWrongFalsely : Prop := lockTurnRow.holds Try.pinned (OpenSpec.ofChange lockTurnWrong)

/-- 'budwoodlaw09.LockAgain': WHATEVER THE INPUT: true; the input reads as it did. -/
def lockAgainSpec : ChangeSpec := { name := "lockAgain", fn := fun _ => fun
  | [d] => { results := [.lit (.bool true)], args := [d] }
  | _ => none }
def lockAgainRow : OpenClaim := { program := "ytpkeiaeaonmacaa", sum := "2521bf0b577892f88aaeac70576e3e9348b212670915c41096a9b791a48cce45", func := "budwood/budwoodlaw09.LockAgain", spec := "lockAgain", inPlace := ["slices.overlaps[budwood/lock.wait]"], unfollowed := true, recurses := true, apart := false }
def LockAgainSaid : Prop := lockAgainRow.holds Try.pinned (OpenSpec.ofChange lockAgainSpec)

/-- ITS FALSE NEIGHBOUR: 'it returns false'. Refute it at one input. -/
def lockAgainWrong : ChangeSpec := { name := "lockAgain", fn := fun _ => fun
  | [d] => { results := [.lit (.bool false)], args := [d] }
  | _ => none }
def LockAgainWrongFalsely : Prop := lockAgainRow.holds Try.pinned (OpenSpec.ofChange lockAgainWrong)

/-- 'budwoodlaw09.LockDrop': WHATEVER THE INPUT: true; the input reads as it did. -/
def lockDropSpec : ChangeSpec := { name := "lockDrop", fn := fun _ => fun
  | [d1, d2] => { results := [.lit (.bool true)], args := [d1, d2] }
  | _ => none }
def lockDropRow : OpenClaim := { program := "ytpkeiaeaonmacaa", sum := "2521bf0b577892f88aaeac70576e3e9348b212670915c41096a9b791a48cce45", func := "budwood/budwoodlaw09.LockDrop", spec := "lockDrop", inPlace := ["slices.overlaps[budwood/lock.wait]"], unfollowed := true, recurses := true, apart := false }
def LockDropSaid : Prop := lockDropRow.holds Try.pinned (OpenSpec.ofChange lockDropSpec)

/-- ITS FALSE NEIGHBOUR: 'it returns false'. Refute it at one input. -/
def lockDropWrong : ChangeSpec := { name := "lockDrop", fn := fun _ => fun
  | [d1, d2] => { results := [.lit (.bool false)], args := [d1, d2] }
  | _ => none }
def LockDropWrongFalsely : Prop := lockDropRow.holds Try.pinned (OpenSpec.ofChange lockDropWrong)

/- THE SECOND FORM. 'bulk': how many values and letters a reading holds, each counted each time it is reached (what is shared counts as often as it is met; a slice's spare places count too). A statement '..UptoSaid' is the law's where the arguments, and the package variables that the reading takes, are together of bulk at most 1048576: NARROWER than '..Said'. Prove '..Said' where nothing that the law and all that it calls make is longer than what came in: it says more and counts as full. Else prove '..UptoSaid'. A law counts once. -/
mutual
def uptoBulk {H : Type} : DataW H → Nat
  | .lit (.string bytes) => bytes.length + 1
  | .lit _ => 1
  | .nil => 1
  | .ptr d => uptoBulk d + 1
  | .slice elems spare => uptoBulkAll elems + uptoBulkAll spare + 1
  | .agg parts => uptoBulkAll parts + 1
  | .iface _ d => uptoBulk d + 1
  | .map entries => uptoBulkEntries entries + 1
  | .held _ => 1
def uptoBulkAll {H : Type} : List (DataW H) → Nat
  | [] => 0
  | d :: r => uptoBulk d + uptoBulkAll r
def uptoBulkEntries {H : Type} : List (Lit × DataW H) → Nat
  | [] => 0
  | x :: r => uptoBulkEntry x + uptoBulkEntries r
def uptoBulkEntry {H : Type} : Lit × DataW H → Nat
  | (.string bytes, d) => bytes.length + uptoBulk d + 1
  | (_, d) => uptoBulk d + 1
 end
def uptoSmall : (H : Type) → List (DataW H) → Bool := fun _ ds => decide (uptoBulkAll ds ≤ 1048576)
def OpenSpec.upto (s : _root_.Go.ChangeSpec) : _root_.Go.OpenSpec := { _root_.Go.OpenSpec.ofChange s with cond := some uptoSmall }

/-- 'budwoodlaw09.LockFits', WHERE WHAT IT READS IS OF BULK AT MOST 1048576: true; the input reads as it did. -/
def lockFitsUptoRow : OpenClaim := { program := "ytpkeiaeaonmacaa", sum := "2521bf0b577892f88aaeac70576e3e9348b212670915c41096a9b791a48cce45", func := "budwood/budwoodlaw09.LockFits", spec := "lockFits", inPlace := ["slices.overlaps[budwood/lock.wait]"], unfollowed := true, recurses := true, apart := false, narrowed := true }
def LockFitsUptoSaid : Prop := lockFitsUptoRow.holds Try.pinned (OpenSpec.upto lockFitsSpec)

/-- 'budwoodlaw09.LockLives', WHERE WHAT IT READS IS OF BULK AT MOST 1048576: true; the input reads as it did. -/
def lockLivesUptoRow : OpenClaim := { program := "ytpkeiaeaonmacaa", sum := "2521bf0b577892f88aaeac70576e3e9348b212670915c41096a9b791a48cce45", func := "budwood/budwoodlaw09.LockLives", spec := "lockLives", inPlace := ["slices.overlaps[budwood/lock.wait]"], unfollowed := true, recurses := true, apart := false, narrowed := true }
def LockLivesUptoSaid : Prop := lockLivesUptoRow.holds Try.pinned (OpenSpec.upto lockLivesSpec)

/-- 'budwoodlaw09.LockDead', WHERE WHAT IT READS IS OF BULK AT MOST 1048576: true; the input reads as it did. -/
def lockDeadUptoRow : OpenClaim := { program := "ytpkeiaeaonmacaa", sum := "2521bf0b577892f88aaeac70576e3e9348b212670915c41096a9b791a48cce45", func := "budwood/budwoodlaw09.LockDead", spec := "lockDead", inPlace := ["slices.overlaps[budwood/lock.wait]"], unfollowed := true, recurses := true, apart := false, narrowed := true }
def LockDeadUptoSaid : Prop := lockDeadUptoRow.holds Try.pinned (OpenSpec.upto lockDeadSpec)

/-- 'budwoodlaw09.LockTurn', WHERE WHAT IT READS IS OF BULK AT MOST 1048576: true; the input reads as it did. -/
def lockTurnUptoRow : OpenClaim := { program := "ytpkeiaeaonmacaa", sum := "2521bf0b577892f88aaeac70576e3e9348b212670915c41096a9b791a48cce45", func := "budwood/budwoodlaw09.LockTurn", spec := "lockTurn", inPlace := ["slices.overlaps[budwood/lock.wait]"], unfollowed := true, recurses := true, apart := false, narrowed := true }
def LockTurnUptoSaid : Prop := lockTurnUptoRow.holds Try.pinned (OpenSpec.upto lockTurnSpec)

/-- 'budwoodlaw09.LockAgain', WHERE WHAT IT READS IS OF BULK AT MOST 1048576: true; the input reads as it did. -/
def lockAgainUptoRow : OpenClaim := { program := "ytpkeiaeaonmacaa", sum := "2521bf0b577892f88aaeac70576e3e9348b212670915c41096a9b791a48cce45", func := "budwood/budwoodlaw09.LockAgain", spec := "lockAgain", inPlace := ["slices.overlaps[budwood/lock.wait]"], unfollowed := true, recurses := true, apart := false, narrowed := true }
def LockAgainUptoSaid : Prop := lockAgainUptoRow.holds Try.pinned (OpenSpec.upto lockAgainSpec)

/-- 'budwoodlaw09.LockDrop', WHERE WHAT IT READS IS OF BULK AT MOST 1048576: true; the input reads as it did. -/
def lockDropUptoRow : OpenClaim := { program := "ytpkeiaeaonmacaa", sum := "2521bf0b577892f88aaeac70576e3e9348b212670915c41096a9b791a48cce45", func := "budwood/budwoodlaw09.LockDrop", spec := "lockDrop", inPlace := ["slices.overlaps[budwood/lock.wait]"], unfollowed := true, recurses := true, apart := false, narrowed := true }
def LockDropUptoSaid : Prop := lockDropUptoRow.holds Try.pinned (OpenSpec.upto lockDropSpec)

end Rows
end Go.Proofs.Ytpkeiaeaonmacaa
