/-
  No cell of these rows narrows 'for every input' (looked for: loops, veiled, ifaces, maps, wideKeys, modest, calm, conditions, laid).
  DERIVED. THE GIVEN ROWS OF THIS SEAT. 3 by the template 'for every input the law returns true; each argument reads behind the call as it read before'; 0 by the template 'total and deterministic' (their statements: YthnefhkacgkacaaTotals.lean).
  GIVEN WITH THE SEED: the statements are not yours to turn. If you find one false, say at which input.
  Laid BY PROGRAM, IN A SANDBOX (cutbox-rows.mjs): the forced cells as the released guide's own fill.sh prints them over the translation 436652df46f66893… (all of the seat's roots in one cut). By AI agents, Wed Nov 11 2026. No macro, syntax, notation, axiom, sorry.
-/
import Derived.Test.YthnefhkacgkacaaChecked
import GoSem.Claim
import GoSem.ClaimJoined
import GoSem.ClaimMapViews
import Derived.JoinedTies
import Derived.KernelRfl
namespace Go.Proofs.Ythnefhkacgkacaa
/- THE CELL 'sum', in the pinned program and in every row, IS THE sha256 OF THE DUMP (.gsa) THAT YthnefhkacgkacaaProg.lean LOADS. Nothing in Lean hashes anything: it is a label: what it is worth is what the hold of that sum in a sandbox is worth. -/
noncomputable def Try.pinned : Pinned := { name := "ythnefhkacgkacaa", sum := "436652df46f66893e279439e4ca0669be92b19bc8cdc95726c2ab9bb115c32c1", checked := Try.checked }
namespace Rows
def none {H : Type} : Left H := { results := [], args := [] }

/-- 'demesnelaw19.DirtyPlays': WHATEVER THE INPUT: true; the input reads as it did. -/
def dirtyPlaysSpec : ChangeSpec := { name := "dirtyPlays", fn := fun _ => fun
  | [d] => { results := [.lit (.bool true)], args := [d] }
  | _ => none }
def dirtyPlaysRow : OpenClaim := { program := "ythnefhkacgkacaa", sum := "436652df46f66893e279439e4ca0669be92b19bc8cdc95726c2ab9bb115c32c1", func := "demesne/demesnelaw19.DirtyPlays", spec := "dirtyPlays", recurses := true, apart := false }
def DirtyPlaysSaid : Prop := dirtyPlaysRow.holds Try.pinned (OpenSpec.ofChange dirtyPlaysSpec)

/-- ITS FALSE NEIGHBOUR: 'it returns false'. Refute it at one input. -/
def dirtyPlaysWrong : ChangeSpec := { name := "dirtyPlays", fn := fun _ => fun
  | [d] => { results := [.lit (.bool false)], args := [d] }
  | _ => none }
def DirtyPlaysWrongFalsely : Prop := dirtyPlaysRow.holds Try.pinned (OpenSpec.ofChange dirtyPlaysWrong)

/-- 'demesnelaw19.DirtyTells': WHATEVER THE INPUT: true; the input reads as it did. -/
def dirtyTellsSpec : ChangeSpec := { name := "dirtyTells", fn := fun _ => fun
  | [d1, d2, d3] => { results := [.lit (.bool true)], args := [d1, d2, d3] }
  | _ => none }
def dirtyTellsRow : OpenClaim := { program := "ythnefhkacgkacaa", sum := "436652df46f66893e279439e4ca0669be92b19bc8cdc95726c2ab9bb115c32c1", func := "demesne/demesnelaw19.DirtyTells", spec := "dirtyTells", recurses := true, apart := false }
def DirtyTellsSaid : Prop := dirtyTellsRow.holds Try.pinned (OpenSpec.ofChange dirtyTellsSpec)

/-- ITS FALSE NEIGHBOUR: 'it returns false'. Refute it at one input. -/
def dirtyTellsWrong : ChangeSpec := { name := "dirtyTells", fn := fun _ => fun
  | [d1, d2, d3] => { results := [.lit (.bool false)], args := [d1, d2, d3] }
  | _ => none }
def DirtyTellsWrongFalsely : Prop := dirtyTellsRow.holds Try.pinned (OpenSpec.ofChange dirtyTellsWrong)

/-- 'demesnelaw19.DirtyOff': WHATEVER THE INPUT: true; the input reads as it did. -/
def dirtyOffSpec : ChangeSpec := { name := "dirtyOff", fn := fun _ => fun
  | [d] => { results := [.lit (.bool true)], args := [d] }
  | _ => none }
def dirtyOffRow : OpenClaim := { program := "ythnefhkacgkacaa", sum := "436652df46f66893e279439e4ca0669be92b19bc8cdc95726c2ab9bb115c32c1", func := "demesne/demesnelaw19.DirtyOff", spec := "dirtyOff", recurses := true, apart := false }
def DirtyOffSaid : Prop := dirtyOffRow.holds Try.pinned (OpenSpec.ofChange dirtyOffSpec)

/-- ITS FALSE NEIGHBOUR: 'it returns false'. Refute it at one input. -/
def dirtyOffWrong : ChangeSpec := { name := "dirtyOff", fn := fun _ => fun
  | [d] => { results := [.lit (.bool false)], args := [d] }
  | _ => none }
def DirtyOffWrongFalsely : Prop := dirtyOffRow.holds Try.pinned (OpenSpec.ofChange dirtyOffWrong)

/- THE SECOND FORM. 'bulk': how many values and letters a reading holds, each counted each time it is reached (what is shared counts as often as it is met; a slice's spare places count too). A statement '..UptoSaid' is the law's where the arguments, and the package variables that the reading takes, are together of bulk at most 1048576: NARROWER than '..Said'. Prove '..Said' where nothing that the law and all that it calls make is longer than what came in: it says more and counts as full. Else prove '..UptoSaid'. A law counts once. -/
mutual
def uptoBulk {H : Type} : DataW H → Nat
  | .lit (.string bytes) => bytes.length + 1
  | .lit _ => 1
  | .nil => 1
  | .ptr d => uptoBulk d + 1
  | .slice elems spare => uptoBulkAll elems + uptoBulkAll spare + 1
  | .agg parts => uptoBulkAll parts + 1
  | .iface _ d => uptoBulk d + 1
  | .map entries => uptoBulkEntries entries + 1
  | .held _ => 1
def uptoBulkAll {H : Type} : List (DataW H) → Nat
  | [] => 0
  | d :: r => uptoBulk d + uptoBulkAll r
def uptoBulkEntries {H : Type} : List (Lit × DataW H) → Nat
  | [] => 0
  | x :: r => uptoBulkEntry x + uptoBulkEntries r
def uptoBulkEntry {H : Type} : Lit × DataW H → Nat
  | (.string bytes, d) => bytes.length + uptoBulk d + 1
  | (_, d) => uptoBulk d + 1
 end
def uptoSmall : (H : Type) → List (DataW H) → Bool := fun _ ds => decide (uptoBulkAll ds ≤ 1048576)
def OpenSpec.upto (s : _root_.Go.ChangeSpec) : _root_.Go.OpenSpec := { _root_.Go.OpenSpec.ofChange s with cond := some uptoSmall }

/-- 'demesnelaw19.DirtyPlays', WHERE WHAT IT READS IS OF BULK AT MOST 1048576: true; the input reads as it did. -/
def dirtyPlaysUptoRow : OpenClaim := { program := "ythnefhkacgkacaa", sum := "436652df46f66893e279439e4ca0669be92b19bc8cdc95726c2ab9bb115c32c1", func := "demesne/demesnelaw19.DirtyPlays", spec := "dirtyPlays", recurses := true, apart := false, narrowed := true }
def DirtyPlaysUptoSaid : Prop := dirtyPlaysUptoRow.holds Try.pinned (OpenSpec.upto dirtyPlaysSpec)

/-- 'demesnelaw19.DirtyTells', WHERE WHAT IT READS IS OF BULK AT MOST 1048576: true; the input reads as it did. -/
def dirtyTellsUptoRow : OpenClaim := { program := "ythnefhkacgkacaa", sum := "436652df46f66893e279439e4ca0669be92b19bc8cdc95726c2ab9bb115c32c1", func := "demesne/demesnelaw19.DirtyTells", spec := "dirtyTells", recurses := true, apart := false, narrowed := true }
def DirtyTellsUptoSaid : Prop := dirtyTellsUptoRow.holds Try.pinned (OpenSpec.upto dirtyTellsSpec)

/-- 'demesnelaw19.DirtyOff', WHERE WHAT IT READS IS OF BULK AT MOST 1048576: true; the input reads as it did. -/
def dirtyOffUptoRow : OpenClaim := { program := "ythnefhkacgkacaa", sum := "436652df46f66893e279439e4ca0669be92b19bc8cdc95726c2ab9bb115c32c1", func := "demesne/demesnelaw19.DirtyOff", spec := "dirtyOff", recurses := true, apart := false, narrowed := true }
def DirtyOffUptoSaid : Prop := dirtyOffUptoRow.holds Try.pinned (OpenSpec.upto dirtyOffSpec)

end Rows
end Go.Proofs.Ythnefhkacgkacaa
