/-
  No cell of these rows narrows 'for every input' (looked for: loops, veiled, ifaces, maps, wideKeys, modest, calm, conditions, laid).
  DERIVED. THE GIVEN ROWS OF THIS SEAT. 3 by the template 'for every input the law returns true; each argument reads behind the call as it read before'; 0 by the template 'total and deterministic' (their statements: YtghniddefhdmmaaTotals.lean).
  GIVEN WITH THE SEED: the statements are not yours to turn. If you find one false, say at which input.
  Laid BY PROGRAM, IN A SANDBOX (cutbox-rows.mjs): the forced cells as the released guide's own fill.sh prints them over the translation 540fb6b54d6c9977… (all of the seat's roots in one cut). By AI agents, Wed Nov 11 2026. No macro, syntax, notation, axiom, sorry.
-/
import Derived.Test.YtghniddefhdmmaaChecked
import GoSem.Claim
import GoSem.ClaimJoined
import GoSem.ClaimMapViews
import Derived.JoinedTies
import Derived.KernelRfl
namespace Go.Proofs.Ytghniddefhdmmaa
/- THE CELL 'sum', in the pinned program and in every row, IS THE sha256 OF THE DUMP (.gsa) THAT YtghniddefhdmmaaProg.lean LOADS. Nothing in Lean hashes anything: it is a label: what it is worth is what the hold of that sum in a sandbox is worth. -/
noncomputable def Try.pinned : Pinned := { name := "ytghniddefhdmmaa", sum := "540fb6b54d6c9977e3473fb345e36e554fad5c27e3ffd146add594440e88b6e5", checked := Try.checked }
namespace Rows
def none {H : Type} : Left H := { results := [], args := [] }

/-- 'demesnelaw2.HeatWarms': WHATEVER THE INPUT: true; the input reads as it did. -/
def heatWarmsSpec : ChangeSpec := { name := "heatWarms", fn := fun _ => fun
  | [d1, d2, d3, d4, d5] => { results := [.lit (.bool true)], args := [d1, d2, d3, d4, d5] }
  | _ => none }
def heatWarmsRow : OpenClaim := { program := "ytghniddefhdmmaa", sum := "540fb6b54d6c9977e3473fb345e36e554fad5c27e3ffd146add594440e88b6e5", func := "demesne/demesnelaw2.HeatWarms", spec := "heatWarms", unfollowed := true, recurses := true, apart := false }
def HeatWarmsSaid : Prop := heatWarmsRow.holds Try.pinned (OpenSpec.ofChange heatWarmsSpec)

/-- ITS FALSE NEIGHBOUR: 'it returns false'. Refute it at one input. -/
def heatWarmsWrong : ChangeSpec := { name := "heatWarms", fn := fun _ => fun
  | [d1, d2, d3, d4, d5] => { results := [.lit (.bool false)], args := [d1, d2, d3, d4, d5] }
  | _ => none }
def HeatWarmsWrongFalsely : Prop := heatWarmsRow.holds Try.pinned (OpenSpec.ofChange heatWarmsWrong)

/-- 'demesnelaw2.HeatOrders': WHATEVER THE INPUT: true; the input reads as it did. -/
def heatOrdersSpec : ChangeSpec := { name := "heatOrders", fn := fun _ => fun
  | [d1, d2] => { results := [.lit (.bool true)], args := [d1, d2] }
  | _ => none }
def heatOrdersRow : OpenClaim := { program := "ytghniddefhdmmaa", sum := "540fb6b54d6c9977e3473fb345e36e554fad5c27e3ffd146add594440e88b6e5", func := "demesne/demesnelaw2.HeatOrders", spec := "heatOrders", unfollowed := true, recurses := true, apart := false }
def HeatOrdersSaid : Prop := heatOrdersRow.holds Try.pinned (OpenSpec.ofChange heatOrdersSpec)

/-- ITS FALSE NEIGHBOUR: 'it returns false'. Refute it at one input. -/
def heatOrdersWrong : ChangeSpec := { name := "heatOrders", fn := fun _ => fun
  | [d1, d2] => { results := [.lit (.bool false)], args := [d1, d2] }
  | _ => none }
def HeatOrdersWrongFalsely : Prop := heatOrdersRow.holds Try.pinned (OpenSpec.ofChange heatOrdersWrong)

/-- 'demesnelaw2.HeatCounts': WHATEVER THE INPUT: true; the input reads as it did. -/
def heatCountsSpec : ChangeSpec := { name := "heatCounts", fn := fun _ => fun
  | [d1, d2] => { results := [.lit (.bool true)], args := [d1, d2] }
  | _ => none }
def heatCountsRow : OpenClaim := { program := "ytghniddefhdmmaa", sum := "540fb6b54d6c9977e3473fb345e36e554fad5c27e3ffd146add594440e88b6e5", func := "demesne/demesnelaw2.HeatCounts", spec := "heatCounts", unfollowed := true, recurses := true, apart := false }
def HeatCountsSaid : Prop := heatCountsRow.holds Try.pinned (OpenSpec.ofChange heatCountsSpec)

/-- ITS FALSE NEIGHBOUR: 'it returns false'. Refute it at one input. -/
def heatCountsWrong : ChangeSpec := { name := "heatCounts", fn := fun _ => fun
  | [d1, d2] => { results := [.lit (.bool false)], args := [d1, d2] }
  | _ => none }
def HeatCountsWrongFalsely : Prop := heatCountsRow.holds Try.pinned (OpenSpec.ofChange heatCountsWrong)

/- THE SECOND FORM. 'bulk': how many values and letters a reading holds, each counted each time it is reached (what is shared counts as often as it is met; a slice's spare places count too). A statement '..UptoSaid' is the law's where the arguments, and the package variables that the reading takes, are together of bulk at most 1048576: NARROWER than '..Said'. Prove '..Said' where nothing that the law and all that it calls make is longer than what came in: it says more and counts as full. Else prove '..UptoSaid'. A law counts once. -/
mutual
def uptoBulk {H : Type} : DataW H → Nat
  | .lit (.string bytes) => bytes.length + 1
  | .lit _ => 1
  | .nil => 1
  | .ptr d => uptoBulk d + 1
  | .slice elems spare => uptoBulkAll elems + uptoBulkAll spare + 1
  | .agg parts => uptoBulkAll parts + 1
  | .iface _ d => uptoBulk d + 1
  | .map entries => uptoBulkEntries entries + 1
  | .held _ => 1
def uptoBulkAll {H : Type} : List (DataW H) → Nat
  | [] => 0
  | d :: r => uptoBulk d + uptoBulkAll r
def uptoBulkEntries {H : Type} : List (Lit × DataW H) → Nat
  | [] => 0
  | x :: r => uptoBulkEntry x + uptoBulkEntries r
def uptoBulkEntry {H : Type} : Lit × DataW H → Nat
  | (.string bytes, d) => bytes.length + uptoBulk d + 1
  | (_, d) => uptoBulk d + 1
 end
def uptoSmall : (H : Type) → List (DataW H) → Bool := fun _ ds => decide (uptoBulkAll ds ≤ 1048576)
def OpenSpec.upto (s : _root_.Go.ChangeSpec) : _root_.Go.OpenSpec := { _root_.Go.OpenSpec.ofChange s with cond := some uptoSmall }

/-- 'demesnelaw2.HeatWarms', WHERE WHAT IT READS IS OF BULK AT MOST 1048576: true; the input reads as it did. -/
def heatWarmsUptoRow : OpenClaim := { program := "ytghniddefhdmmaa", sum := "540fb6b54d6c9977e3473fb345e36e554fad5c27e3ffd146add594440e88b6e5", func := "demesne/demesnelaw2.HeatWarms", spec := "heatWarms", unfollowed := true, recurses := true, apart := false, narrowed := true }
def HeatWarmsUptoSaid : Prop := heatWarmsUptoRow.holds Try.pinned (OpenSpec.upto heatWarmsSpec)

/-- 'demesnelaw2.HeatOrders', WHERE WHAT IT READS IS OF BULK AT MOST 1048576: true; the input reads as it did. -/
def heatOrdersUptoRow : OpenClaim := { program := "ytghniddefhdmmaa", sum := "540fb6b54d6c9977e3473fb345e36e554fad5c27e3ffd146add594440e88b6e5", func := "demesne/demesnelaw2.HeatOrders", spec := "heatOrders", unfollowed := true, recurses := true, apart := false, narrowed := true }
def HeatOrdersUptoSaid : Prop := heatOrdersUptoRow.holds Try.pinned (OpenSpec.upto heatOrdersSpec)

/-- 'demesnelaw2.HeatCounts', WHERE WHAT IT READS IS OF BULK AT MOST 1048576: true; the input reads as it did. -/
def heatCountsUptoRow : OpenClaim := { program := "ytghniddefhdmmaa", sum := "540fb6b54d6c9977e3473fb345e36e554fad5c27e3ffd146add594440e88b6e5", func := "demesne/demesnelaw2.HeatCounts", spec := "heatCounts", unfollowed := true, recurses := true, apart := false, narrowed := true }
def HeatCountsUptoSaid : Prop := heatCountsUptoRow.holds Try.pinned (OpenSpec.upto heatCountsSpec)

end Rows
end Go.Proofs.Ytghniddefhdmmaa
