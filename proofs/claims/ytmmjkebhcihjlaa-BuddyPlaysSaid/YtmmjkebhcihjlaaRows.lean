/-
  No cell of these rows narrows 'for every input' (looked for: loops, veiled, ifaces, maps, wideKeys, modest, calm, conditions, laid).
  DERIVED. THE GIVEN ROWS OF THIS SEAT. 5 by the template 'for every input the law returns true; each argument reads behind the call as it read before'; 0 by the template 'total and deterministic' (their statements: YtmmjkebhcihjlaaTotals.lean).
  GIVEN WITH THE SEED: the statements are not yours to turn. If you find one false, say at which input.
  Laid BY PROGRAM, IN A SANDBOX (cutbox-rows.mjs): the forced cells as the released guide's own fill.sh prints them over the translation a12fcdc35936fa57… (all of the seat's roots in one cut). By AI agents, Wed Nov 11 2026. No macro, syntax, notation, axiom, sorry.
-/
import Derived.Test.YtmmjkebhcihjlaaChecked
import GoSem.Claim
import GoSem.ClaimJoined
import GoSem.ClaimMapViews
import Derived.JoinedTies
import Derived.KernelRfl
namespace Go.Proofs.Ytmmjkebhcihjlaa
/- THE CELL 'sum', in the pinned program and in every row, IS THE sha256 OF THE DUMP (.gsa) THAT YtmmjkebhcihjlaaProg.lean LOADS. Nothing in Lean hashes anything: it is a label: what it is worth is what the hold of that sum in a sandbox is worth. -/
noncomputable def Try.pinned : Pinned := { name := "ytmmjkebhcihjlaa", sum := "a12fcdc35936fa57e6fbfe06089a4fafb27e450249b761cc401ada51a8f7590d", checked := Try.checked }
namespace Rows
def none {H : Type} : Left H := { results := [], args := [] }

/-- 'demesnelaw7.BuddyPlays': WHATEVER THE INPUT: true; the input reads as it did. -/
def buddyPlaysSpec : ChangeSpec := { name := "buddyPlays", fn := fun _ => fun
  | [d1, d2, d3] => { results := [.lit (.bool true)], args := [d1, d2, d3] }
  | _ => none }
def buddyPlaysRow : OpenClaim := { program := "ytmmjkebhcihjlaa", sum := "a12fcdc35936fa57e6fbfe06089a4fafb27e450249b761cc401ada51a8f7590d", func := "demesne/demesnelaw7.BuddyPlays", spec := "buddyPlays", inPlace := ["slices.overlaps[int]"], unfollowed := true, recurses := true, apart := false }
def BuddyPlaysSaid : Prop := buddyPlaysRow.holds Try.pinned (OpenSpec.ofChange buddyPlaysSpec)

/-- ITS FALSE NEIGHBOUR: 'it returns false'. Refute it at one input. -/
def buddyPlaysWrong : ChangeSpec := { name := "buddyPlays", fn := fun _ => fun
  | [d1, d2, d3] => { results := [.lit (.bool false)], args := [d1, d2, d3] }
  | _ => none }
def BuddyPlaysWrongFalsely : Prop := buddyPlaysRow.holds Try.pinned (OpenSpec.ofChange buddyPlaysWrong)

/-- 'demesnelaw7.BuddyOnce': WHATEVER THE INPUT: true; the input reads as it did. -/
def buddyOnceSpec : ChangeSpec := { name := "buddyOnce", fn := fun _ => fun
  | [d1, d2, d3] => { results := [.lit (.bool true)], args := [d1, d2, d3] }
  | _ => none }
def buddyOnceRow : OpenClaim := { program := "ytmmjkebhcihjlaa", sum := "a12fcdc35936fa57e6fbfe06089a4fafb27e450249b761cc401ada51a8f7590d", func := "demesne/demesnelaw7.BuddyOnce", spec := "buddyOnce", inPlace := ["slices.overlaps[int]"], unfollowed := true, recurses := true, apart := false }
def BuddyOnceSaid : Prop := buddyOnceRow.holds Try.pinned (OpenSpec.ofChange buddyOnceSpec)

/-- ITS FALSE NEIGHBOUR: 'it returns false'. Refute it at one input. -/
def buddyOnceWrong : ChangeSpec := { name := "buddyOnce", fn := fun _ => fun
  | [d1, d2, d3] => { results := [.lit (.bool false)], args := [d1, d2, d3] }
  | _ => none }
def BuddyOnceWrongFalsely : Prop := buddyOnceRow.holds Try.pinned (OpenSpec.ofChange buddyOnceWrong)

/-- 'demesnelaw7.BuddyBack': WHATEVER THE INPUT: true; the input reads as it did. -/
def buddyBackSpec : ChangeSpec := { name := "buddyBack", fn := fun _ => fun
  | [d1, d2, d3, d4, d5] => { results := [.lit (.bool true)], args := [d1, d2, d3, d4, d5] }
  | _ => none }
def buddyBackRow : OpenClaim := { program := "ytmmjkebhcihjlaa", sum := "a12fcdc35936fa57e6fbfe06089a4fafb27e450249b761cc401ada51a8f7590d", func := "demesne/demesnelaw7.BuddyBack", spec := "buddyBack", inPlace := ["slices.overlaps[int]"], unfollowed := true, recurses := true, apart := false }
def BuddyBackSaid : Prop := buddyBackRow.holds Try.pinned (OpenSpec.ofChange buddyBackSpec)

/-- ITS FALSE NEIGHBOUR: 'it returns false'. Refute it at one input. -/
def buddyBackWrong : ChangeSpec := { name := "buddyBack", fn := fun _ => fun
  | [d1, d2, d3, d4, d5] => { results := [.lit (.bool false)], args := [d1, d2, d3, d4, d5] }
  | _ => none }
def BuddyBackWrongFalsely : Prop := buddyBackRow.holds Try.pinned (OpenSpec.ofChange buddyBackWrong)

/-- 'demesnelaw7.BuddyRuns': WHATEVER THE INPUT: true; the input reads as it did. -/
def buddyRunsSpec : ChangeSpec := { name := "buddyRuns", fn := fun _ => fun
  | [d1, d2, d3] => { results := [.lit (.bool true)], args := [d1, d2, d3] }
  | _ => none }
def buddyRunsRow : OpenClaim := { program := "ytmmjkebhcihjlaa", sum := "a12fcdc35936fa57e6fbfe06089a4fafb27e450249b761cc401ada51a8f7590d", func := "demesne/demesnelaw7.BuddyRuns", spec := "buddyRuns", inPlace := ["slices.overlaps[int]"], unfollowed := true, recurses := true, apart := false }
def BuddyRunsSaid : Prop := buddyRunsRow.holds Try.pinned (OpenSpec.ofChange buddyRunsSpec)

/-- ITS FALSE NEIGHBOUR: 'it returns false'. Refute it at one input. -/
def buddyRunsWrong : ChangeSpec := { name := "buddyRuns", fn := fun _ => fun
  | [d1, d2, d3] => { results := [.lit (.bool false)], args := [d1, d2, d3] }
  | _ => none }
def BuddyRunsWrongFalsely : Prop := buddyRunsRow.holds Try.pinned (OpenSpec.ofChange buddyRunsWrong)

/-- 'demesnelaw7.BuddyLeast': WHATEVER THE INPUT: true; the input reads as it did. -/
def buddyLeastSpec : ChangeSpec := { name := "buddyLeast", fn := fun _ => fun
  | [d1, d2, d3, d4] => { results := [.lit (.bool true)], args := [d1, d2, d3, d4] }
  | _ => none }
def buddyLeastRow : OpenClaim := { program := "ytmmjkebhcihjlaa", sum := "a12fcdc35936fa57e6fbfe06089a4fafb27e450249b761cc401ada51a8f7590d", func := "demesne/demesnelaw7.BuddyLeast", spec := "buddyLeast", inPlace := ["slices.overlaps[int]"], unfollowed := true, recurses := true, apart := false }
def BuddyLeastSaid : Prop := buddyLeastRow.holds Try.pinned (OpenSpec.ofChange buddyLeastSpec)

/-- ITS FALSE NEIGHBOUR: 'it returns false'. Refute it at one input. -/
def buddyLeastWrong : ChangeSpec := { name := "buddyLeast", fn := fun _ => fun
  | [d1, d2, d3, d4] => { results := [.lit (.bool false)], args := [d1, d2, d3, d4] }
  | _ => none }
def BuddyLeastWrongFalsely : Prop := buddyLeastRow.holds Try.pinned (OpenSpec.ofChange buddyLeastWrong)

/- THE SECOND FORM. 'bulk': how many values and letters a reading holds, each counted each time it is reached (what is shared counts as often as it is met; a slice's spare places count too). A statement '..UptoSaid' is the law's where the arguments, and the package variables that the reading takes, are together of bulk at most 1048576: NARROWER than '..Said'. Prove '..Said' where nothing that the law and all that it calls make is longer than what came in: it says more and counts as full. Else prove '..UptoSaid'. A law counts once. -/
mutual
def uptoBulk {H : Type} : DataW H → Nat
  | .lit (.string bytes) => bytes.length + 1
  | .lit _ => 1
  | .nil => 1
  | .ptr d => uptoBulk d + 1
  | .slice elems spare => uptoBulkAll elems + uptoBulkAll spare + 1
  | .agg parts => uptoBulkAll parts + 1
  | .iface _ d => uptoBulk d + 1
  | .map entries => uptoBulkEntries entries + 1
  | .held _ => 1
def uptoBulkAll {H : Type} : List (DataW H) → Nat
  | [] => 0
  | d :: r => uptoBulk d + uptoBulkAll r
def uptoBulkEntries {H : Type} : List (Lit × DataW H) → Nat
  | [] => 0
  | x :: r => uptoBulkEntry x + uptoBulkEntries r
def uptoBulkEntry {H : Type} : Lit × DataW H → Nat
  | (.string bytes, d) => bytes.length + uptoBulk d + 1
  | (_, d) => uptoBulk d + 1
 end
def uptoSmall : (H : Type) → List (DataW H) → Bool := fun _ ds => decide (uptoBulkAll ds ≤ 1048576)
def OpenSpec.upto (s : _root_.Go.ChangeSpec) : _root_.Go.OpenSpec := { _root_.Go.OpenSpec.ofChange s with cond := some uptoSmall }

/-- 'demesnelaw7.BuddyPlays', WHERE WHAT IT READS IS OF BULK AT MOST 1048576: true; the input reads as it did. -/
def buddyPlaysUptoRow : OpenClaim := { program := "ytmmjkebhcihjlaa", sum := "a12fcdc35936fa57e6fbfe06089a4fafb27e450249b761cc401ada51a8f7590d", func := "demesne/demesnelaw7.BuddyPlays", spec := "buddyPlays", inPlace := ["slices.overlaps[int]"], unfollowed := true, recurses := true, apart := false, narrowed := true }
def BuddyPlaysUptoSaid : Prop := buddyPlaysUptoRow.holds Try.pinned (OpenSpec.upto buddyPlaysSpec)

/-- 'demesnelaw7.BuddyOnce', WHERE WHAT IT READS IS OF BULK AT MOST 1048576: true; the input reads as it did. -/
def buddyOnceUptoRow : OpenClaim := { program := "ytmmjkebhcihjlaa", sum := "a12fcdc35936fa57e6fbfe06089a4fafb27e450249b761cc401ada51a8f7590d", func := "demesne/demesnelaw7.BuddyOnce", spec := "buddyOnce", inPlace := ["slices.overlaps[int]"], unfollowed := true, recurses := true, apart := false, narrowed := true }
def BuddyOnceUptoSaid : Prop := buddyOnceUptoRow.holds Try.pinned (OpenSpec.upto buddyOnceSpec)

/-- 'demesnelaw7.BuddyBack', WHERE WHAT IT READS IS OF BULK AT MOST 1048576: true; the input reads as it did. -/
def buddyBackUptoRow : OpenClaim := { program := "ytmmjkebhcihjlaa", sum := "a12fcdc35936fa57e6fbfe06089a4fafb27e450249b761cc401ada51a8f7590d", func := "demesne/demesnelaw7.BuddyBack", spec := "buddyBack", inPlace := ["slices.overlaps[int]"], unfollowed := true, recurses := true, apart := false, narrowed := true }
def BuddyBackUptoSaid : Prop := buddyBackUptoRow.holds Try.pinned (OpenSpec.upto buddyBackSpec)

/-- 'demesnelaw7.BuddyRuns', WHERE WHAT IT READS IS OF BULK AT MOST 1048576: true; the input reads as it did. -/
def buddyRunsUptoRow : OpenClaim := { program := "ytmmjkebhcihjlaa", sum := "a12fcdc35936fa57e6fbfe06089a4fafb27e450249b761cc401ada51a8f7590d", func := "demesne/demesnelaw7.BuddyRuns", spec := "buddyRuns", inPlace := ["slices.overlaps[int]"], unfollowed := true, recurses := true, apart := false, narrowed := true }
def BuddyRunsUptoSaid : Prop := buddyRunsUptoRow.holds Try.pinned (OpenSpec.upto buddyRunsSpec)

/-- 'demesnelaw7.BuddyLeast', WHERE WHAT IT READS IS OF BULK AT MOST 1048576: true; the input reads as it did. -/
def buddyLeastUptoRow : OpenClaim := { program := "ytmmjkebhcihjlaa", sum := "a12fcdc35936fa57e6fbfe06089a4fafb27e450249b761cc401ada51a8f7590d", func := "demesne/demesnelaw7.BuddyLeast", spec := "buddyLeast", inPlace := ["slices.overlaps[int]"], unfollowed := true, recurses := true, apart := false, narrowed := true }
def BuddyLeastUptoSaid : Prop := buddyLeastUptoRow.holds Try.pinned (OpenSpec.upto buddyLeastSpec)

end Rows
end Go.Proofs.Ytmmjkebhcihjlaa
