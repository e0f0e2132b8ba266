/-
  No cell of these rows narrows 'for every input' (looked for: loops, veiled, ifaces, maps, wideKeys, modest, calm, conditions, laid).
  DERIVED. THE GIVEN ROWS OF THIS SEAT. 4 by the template 'for every input the law returns true; each argument reads behind the call as it read before'; 0 by the template 'total and deterministic' (their statements: YtibklcjjdnhkdaaTotals.lean).
  GIVEN WITH THE SEED: the statements are not yours to turn. If you find one false, say at which input.
  Laid BY PROGRAM, IN A SANDBOX (cutbox-rows.mjs): the forced cells as the released guide's own fill.sh prints them over the translation 2a01ff3d0d3c004a… (all of the seat's roots in one cut). By AI agents, Wed Nov 11 2026. No macro, syntax, notation, axiom, sorry.
-/
import Derived.Test.YtibklcjjdnhkdaaChecked
import GoSem.Claim
import GoSem.ClaimJoined
import GoSem.ClaimMapViews
import Derived.JoinedTies
import Derived.KernelRfl
namespace Go.Proofs.Ytibklcjjdnhkdaa
/- THE CELL 'sum', in the pinned program and in every row, IS THE sha256 OF THE DUMP (.gsa) THAT YtibklcjjdnhkdaaProg.lean LOADS. Nothing in Lean hashes anything: it is a label: what it is worth is what the hold of that sum in a sandbox is worth. -/
noncomputable def Try.pinned : Pinned := { name := "ytibklcjjdnhkdaa", sum := "2a01ff3d0d3c004adb18c37d0785b7a274a4544e2b234867b9369bff8d238e55", checked := Try.checked }
namespace Rows
def none {H : Type} : Left H := { results := [], args := [] }

/-- 'demesnelaw11.LedgerPlays': WHATEVER THE INPUT: true; the input reads as it did. -/
def ledgerPlaysSpec : ChangeSpec := { name := "ledgerPlays", fn := fun _ => fun
  | [d1, d2, d3, d4] => { results := [.lit (.bool true)], args := [d1, d2, d3, d4] }
  | _ => none }
def ledgerPlaysRow : OpenClaim := { program := "ytibklcjjdnhkdaa", sum := "2a01ff3d0d3c004adb18c37d0785b7a274a4544e2b234867b9369bff8d238e55", func := "demesne/demesnelaw11.LedgerPlays", spec := "ledgerPlays", recurses := true, apart := false }
def LedgerPlaysSaid : Prop := ledgerPlaysRow.holds Try.pinned (OpenSpec.ofChange ledgerPlaysSpec)

/-- ITS FALSE NEIGHBOUR: 'it returns false'. Refute it at one input. -/
def ledgerPlaysWrong : ChangeSpec := { name := "ledgerPlays", fn := fun _ => fun
  | [d1, d2, d3, d4] => { results := [.lit (.bool false)], args := [d1, d2, d3, d4] }
  | _ => none }
def LedgerPlaysWrongFalsely : Prop := ledgerPlaysRow.holds Try.pinned (OpenSpec.ofChange ledgerPlaysWrong)

/-- 'demesnelaw11.LedgerOne': WHATEVER THE INPUT: true; the input reads as it did. -/
def ledgerOneSpec : ChangeSpec := { name := "ledgerOne", fn := fun _ => fun
  | [d1, d2] => { results := [.lit (.bool true)], args := [d1, d2] }
  | _ => none }
def ledgerOneRow : OpenClaim := { program := "ytibklcjjdnhkdaa", sum := "2a01ff3d0d3c004adb18c37d0785b7a274a4544e2b234867b9369bff8d238e55", func := "demesne/demesnelaw11.LedgerOne", spec := "ledgerOne", recurses := true, apart := false }
def LedgerOneSaid : Prop := ledgerOneRow.holds Try.pinned (OpenSpec.ofChange ledgerOneSpec)

/-- ITS FALSE NEIGHBOUR: 'it returns false'. Refute it at one input. -/
def ledgerOneWrong : ChangeSpec := { name := "ledgerOne", fn := fun _ => fun
  | [d1, d2] => { results := [.lit (.bool false)], args := [d1, d2] }
  | _ => none }
def LedgerOneWrongFalsely : Prop := ledgerOneRow.holds Try.pinned (OpenSpec.ofChange ledgerOneWrong)

/-- 'demesnelaw11.LedgerOwners': WHATEVER THE INPUT: true; the input reads as it did. -/
def ledgerOwnersSpec : ChangeSpec := { name := "ledgerOwners", fn := fun _ => fun
  | [d1, d2] => { results := [.lit (.bool true)], args := [d1, d2] }
  | _ => none }
def ledgerOwnersRow : OpenClaim := { program := "ytibklcjjdnhkdaa", sum := "2a01ff3d0d3c004adb18c37d0785b7a274a4544e2b234867b9369bff8d238e55", func := "demesne/demesnelaw11.LedgerOwners", spec := "ledgerOwners", recurses := true, apart := false }
def LedgerOwnersSaid : Prop := ledgerOwnersRow.holds Try.pinned (OpenSpec.ofChange ledgerOwnersSpec)

/-- ITS FALSE NEIGHBOUR: 'it returns false'. Refute it at one input. -/
def ledgerOwnersWrong : ChangeSpec := { name := "ledgerOwners", fn := fun _ => fun
  | [d1, d2] => { results := [.lit (.bool false)], args := [d1, d2] }
  | _ => none }
def LedgerOwnersWrongFalsely : Prop := ledgerOwnersRow.holds Try.pinned (OpenSpec.ofChange ledgerOwnersWrong)

/-- 'demesnelaw11.LedgerBack': WHATEVER THE INPUT: true; the input reads as it did. -/
def ledgerBackSpec : ChangeSpec := { name := "ledgerBack", fn := fun _ => fun
  | [d1, d2, d3] => { results := [.lit (.bool true)], args := [d1, d2, d3] }
  | _ => none }
def ledgerBackRow : OpenClaim := { program := "ytibklcjjdnhkdaa", sum := "2a01ff3d0d3c004adb18c37d0785b7a274a4544e2b234867b9369bff8d238e55", func := "demesne/demesnelaw11.LedgerBack", spec := "ledgerBack", recurses := true, apart := false }
def LedgerBackSaid : Prop := ledgerBackRow.holds Try.pinned (OpenSpec.ofChange ledgerBackSpec)

/-- ITS FALSE NEIGHBOUR: 'it returns false'. Refute it at one input. -/
def ledgerBackWrong : ChangeSpec := { name := "ledgerBack", fn := fun _ => fun
  | [d1, d2, d3] => { results := [.lit (.bool false)], args := [d1, d2, d3] }
  | _ => none }
def LedgerBackWrongFalsely : Prop := ledgerBackRow.holds Try.pinned (OpenSpec.ofChange ledgerBackWrong)

/- THE SECOND FORM. 'bulk': how many values and letters a reading holds, each counted each time it is reached (what is shared counts as often as it is met; a slice's spare places count too). A statement '..UptoSaid' is the law's where the arguments, and the package variables that the reading takes, are together of bulk at most 1048576: NARROWER than '..Said'. Prove '..Said' where nothing that the law and all that it calls make is longer than what came in: it says more and counts as full. Else prove '..UptoSaid'. A law counts once. -/
mutual
def uptoBulk {H : Type} : DataW H → Nat
  | .lit (.string bytes) => bytes.length + 1
  | .lit _ => 1
  | .nil => 1
  | .ptr d => uptoBulk d + 1
  | .slice elems spare => uptoBulkAll elems + uptoBulkAll spare + 1
  | .agg parts => uptoBulkAll parts + 1
  | .iface _ d => uptoBulk d + 1
  | .map entries => uptoBulkEntries entries + 1
  | .held _ => 1
def uptoBulkAll {H : Type} : List (DataW H) → Nat
  | [] => 0
  | d :: r => uptoBulk d + uptoBulkAll r
def uptoBulkEntries {H : Type} : List (Lit × DataW H) → Nat
  | [] => 0
  | x :: r => uptoBulkEntry x + uptoBulkEntries r
def uptoBulkEntry {H : Type} : Lit × DataW H → Nat
  | (.string bytes, d) => bytes.length + uptoBulk d + 1
  | (_, d) => uptoBulk d + 1
 end
def uptoSmall : (H : Type) → List (DataW H) → Bool := fun _ ds => decide (uptoBulkAll ds ≤ 1048576)
def OpenSpec.upto (s : _root_.Go.ChangeSpec) : _root_.Go.OpenSpec := { _root_.Go.OpenSpec.ofChange s with cond := some uptoSmall }

/-- 'demesnelaw11.LedgerPlays', WHERE WHAT IT READS IS OF BULK AT MOST 1048576: true; the input reads as it did. -/
def ledgerPlaysUptoRow : OpenClaim := { program := "ytibklcjjdnhkdaa", sum := "2a01ff3d0d3c004adb18c37d0785b7a274a4544e2b234867b9369bff8d238e55", func := "demesne/demesnelaw11.LedgerPlays", spec := "ledgerPlays", recurses := true, apart := false, narrowed := true }
def LedgerPlaysUptoSaid : Prop := ledgerPlaysUptoRow.holds Try.pinned (OpenSpec.upto ledgerPlaysSpec)

/-- 'demesnelaw11.LedgerOne', WHERE WHAT IT READS IS OF BULK AT MOST 1048576: true; the input reads as it did. -/
def ledgerOneUptoRow : OpenClaim := { program := "ytibklcjjdnhkdaa", sum := "2a01ff3d0d3c004adb18c37d0785b7a274a4544e2b234867b9369bff8d238e55", func := "demesne/demesnelaw11.LedgerOne", spec := "ledgerOne", recurses := true, apart := false, narrowed := true }
def LedgerOneUptoSaid : Prop := ledgerOneUptoRow.holds Try.pinned (OpenSpec.upto ledgerOneSpec)

/-- 'demesnelaw11.LedgerOwners', WHERE WHAT IT READS IS OF BULK AT MOST 1048576: true; the input reads as it did. -/
def ledgerOwnersUptoRow : OpenClaim := { program := "ytibklcjjdnhkdaa", sum := "2a01ff3d0d3c004adb18c37d0785b7a274a4544e2b234867b9369bff8d238e55", func := "demesne/demesnelaw11.LedgerOwners", spec := "ledgerOwners", recurses := true, apart := false, narrowed := true }
def LedgerOwnersUptoSaid : Prop := ledgerOwnersUptoRow.holds Try.pinned (OpenSpec.upto ledgerOwnersSpec)

/-- 'demesnelaw11.LedgerBack', WHERE WHAT IT READS IS OF BULK AT MOST 1048576: true; the input reads as it did. -/
def ledgerBackUptoRow : OpenClaim := { program := "ytibklcjjdnhkdaa", sum := "2a01ff3d0d3c004adb18c37d0785b7a274a4544e2b234867b9369bff8d238e55", func := "demesne/demesnelaw11.LedgerBack", spec := "ledgerBack", recurses := true, apart := false, narrowed := true }
def LedgerBackUptoSaid : Prop := ledgerBackUptoRow.holds Try.pinned (OpenSpec.upto ledgerBackSpec)

end Rows
end Go.Proofs.Ytibklcjjdnhkdaa
