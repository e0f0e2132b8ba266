/-
  No cell of these rows narrows 'for every input' (looked for: loops, veiled, ifaces, maps, wideKeys, modest, calm, conditions, laid).
  DERIVED. THE GIVEN ROWS OF THIS SEAT. 6 by the template 'for every input the law returns true; each argument reads behind the call as it read before'; 0 by the template 'total and deterministic' (their statements: YtdificidpjjhpaaTotals.lean).
  GIVEN WITH THE SEED: the statements are not yours to turn. If you find one false, say at which input.
  Laid BY PROGRAM, IN A SANDBOX (cutbox-rows.mjs): the forced cells as the released guide's own fill.sh prints them over the translation 7ec05f2d8fdbb1bd… (all of the seat's roots in one cut). By AI agents, Wed Nov 11 2026. No macro, syntax, notation, axiom, sorry.
-/
import Derived.Test.YtdificidpjjhpaaChecked
import GoSem.Claim
import GoSem.ClaimJoined
import GoSem.ClaimMapViews
import Derived.JoinedTies
import Derived.KernelRfl
namespace Go.Proofs.Ytdificidpjjhpaa
/- THE CELL 'sum', in the pinned program and in every row, IS THE sha256 OF THE DUMP (.gsa) THAT YtdificidpjjhpaaProg.lean LOADS. Nothing in Lean hashes anything: it is a label: what it is worth is what the hold of that sum in a sandbox is worth. -/
noncomputable def Try.pinned : Pinned := { name := "ytdificidpjjhpaa", sum := "7ec05f2d8fdbb1bdeebe73b507584dfce4c1f9ae4e3d8f2025728d4af80c5d38", checked := Try.checked }
namespace Rows
def none {H : Type} : Left H := { results := [], args := [] }

/-- 'demesnelaw1.GaussErrors': WHATEVER THE INPUT: true; the input reads as it did. -/
def gaussErrorsSpec : ChangeSpec := { name := "gaussErrors", fn := fun _ => fun
  | [] => { results := [.lit (.bool true)], args := [] }
  | _ => none }
def gaussErrorsRow : OpenClaim := { program := "ytdificidpjjhpaa", sum := "7ec05f2d8fdbb1bdeebe73b507584dfce4c1f9ae4e3d8f2025728d4af80c5d38", func := "demesne/demesnelaw1.GaussErrors", spec := "gaussErrors", apart := false }
def GaussErrorsSaid : Prop := gaussErrorsRow.holds Try.pinned (OpenSpec.ofChange gaussErrorsSpec)

/-- ITS FALSE NEIGHBOUR: 'it returns false'. Refute it at one input. -/
def gaussErrorsWrong : ChangeSpec := { name := "gaussErrors", fn := fun _ => fun
  | [] => { results := [.lit (.bool false)], args := [] }
  | _ => none }
def GaussErrorsWrongFalsely : Prop := gaussErrorsRow.holds Try.pinned (OpenSpec.ofChange gaussErrorsWrong)

/-- 'demesnelaw1.GaussLine': WHATEVER THE INPUT: true; the input reads as it did. -/
def gaussLineSpec : ChangeSpec := { name := "gaussLine", fn := fun _ => fun
  | [d1, d2, d3, d4, d5, d6, d7] => { results := [.lit (.bool true)], args := [d1, d2, d3, d4, d5, d6, d7] }
  | _ => none }
def gaussLineRow : OpenClaim := { program := "ytdificidpjjhpaa", sum := "7ec05f2d8fdbb1bdeebe73b507584dfce4c1f9ae4e3d8f2025728d4af80c5d38", func := "demesne/demesnelaw1.GaussLine", spec := "gaussLine", apart := false }
def GaussLineSaid : Prop := gaussLineRow.holds Try.pinned (OpenSpec.ofChange gaussLineSpec)

/-- ITS FALSE NEIGHBOUR: 'it returns false'. Refute it at one input. -/
def gaussLineWrong : ChangeSpec := { name := "gaussLine", fn := fun _ => fun
  | [d1, d2, d3, d4, d5, d6, d7] => { results := [.lit (.bool false)], args := [d1, d2, d3, d4, d5, d6, d7] }
  | _ => none }
def GaussLineWrongFalsely : Prop := gaussLineRow.holds Try.pinned (OpenSpec.ofChange gaussLineWrong)

/-- 'demesnelaw1.GaussTurns': WHATEVER THE INPUT: true; the input reads as it did. -/
def gaussTurnsSpec : ChangeSpec := { name := "gaussTurns", fn := fun _ => fun
  | [d1, d2, d3] => { results := [.lit (.bool true)], args := [d1, d2, d3] }
  | _ => none }
def gaussTurnsRow : OpenClaim := { program := "ytdificidpjjhpaa", sum := "7ec05f2d8fdbb1bdeebe73b507584dfce4c1f9ae4e3d8f2025728d4af80c5d38", func := "demesne/demesnelaw1.GaussTurns", spec := "gaussTurns", apart := false }
def GaussTurnsSaid : Prop := gaussTurnsRow.holds Try.pinned (OpenSpec.ofChange gaussTurnsSpec)

/-- ITS FALSE NEIGHBOUR: 'it returns false'. Refute it at one input. -/
def gaussTurnsWrong : ChangeSpec := { name := "gaussTurns", fn := fun _ => fun
  | [d1, d2, d3] => { results := [.lit (.bool false)], args := [d1, d2, d3] }
  | _ => none }
def GaussTurnsWrongFalsely : Prop := gaussTurnsRow.holds Try.pinned (OpenSpec.ofChange gaussTurnsWrong)

/-- 'demesnelaw1.GaussLaws': WHATEVER THE INPUT: true; the input reads as it did. -/
def gaussLawsSpec : ChangeSpec := { name := "gaussLaws", fn := fun _ => fun
  | [d1, d2, d3, d4, d5, d6] => { results := [.lit (.bool true)], args := [d1, d2, d3, d4, d5, d6] }
  | _ => none }
def gaussLawsRow : OpenClaim := { program := "ytdificidpjjhpaa", sum := "7ec05f2d8fdbb1bdeebe73b507584dfce4c1f9ae4e3d8f2025728d4af80c5d38", func := "demesne/demesnelaw1.GaussLaws", spec := "gaussLaws", apart := false }
def GaussLawsSaid : Prop := gaussLawsRow.holds Try.pinned (OpenSpec.ofChange gaussLawsSpec)

/-- ITS FALSE NEIGHBOUR: 'it returns false'. Refute it at one input. -/
def gaussLawsWrong : ChangeSpec := { name := "gaussLaws", fn := fun _ => fun
  | [d1, d2, d3, d4, d5, d6] => { results := [.lit (.bool false)], args := [d1, d2, d3, d4, d5, d6] }
  | _ => none }
def GaussLawsWrongFalsely : Prop := gaussLawsRow.holds Try.pinned (OpenSpec.ofChange gaussLawsWrong)

/-- 'demesnelaw1.GaussRests': WHATEVER THE INPUT: true; the input reads as it did. -/
def gaussRestsSpec : ChangeSpec := { name := "gaussRests", fn := fun _ => fun
  | [d1, d2, d3, d4] => { results := [.lit (.bool true)], args := [d1, d2, d3, d4] }
  | _ => none }
def gaussRestsRow : OpenClaim := { program := "ytdificidpjjhpaa", sum := "7ec05f2d8fdbb1bdeebe73b507584dfce4c1f9ae4e3d8f2025728d4af80c5d38", func := "demesne/demesnelaw1.GaussRests", spec := "gaussRests", apart := false }
def GaussRestsSaid : Prop := gaussRestsRow.holds Try.pinned (OpenSpec.ofChange gaussRestsSpec)

/-- ITS FALSE NEIGHBOUR: 'it returns false'. Refute it at one input. -/
def gaussRestsWrong : ChangeSpec := { name := "gaussRests", fn := fun _ => fun
  | [d1, d2, d3, d4] => { results := [.lit (.bool false)], args := [d1, d2, d3, d4] }
  | _ => none }
def GaussRestsWrongFalsely : Prop := gaussRestsRow.holds Try.pinned (OpenSpec.ofChange gaussRestsWrong)

/-- 'demesnelaw1.GaussUnits': WHATEVER THE INPUT: true; the input reads as it did. -/
def gaussUnitsSpec : ChangeSpec := { name := "gaussUnits", fn := fun _ => fun
  | [d1, d2, d3] => { results := [.lit (.bool true)], args := [d1, d2, d3] }
  | _ => none }
def gaussUnitsRow : OpenClaim := { program := "ytdificidpjjhpaa", sum := "7ec05f2d8fdbb1bdeebe73b507584dfce4c1f9ae4e3d8f2025728d4af80c5d38", func := "demesne/demesnelaw1.GaussUnits", spec := "gaussUnits", apart := false }
def GaussUnitsSaid : Prop := gaussUnitsRow.holds Try.pinned (OpenSpec.ofChange gaussUnitsSpec)

/-- ITS FALSE NEIGHBOUR: 'it returns false'. Refute it at one input. -/
def gaussUnitsWrong : ChangeSpec := { name := "gaussUnits", fn := fun _ => fun
  | [d1, d2, d3] => { results := [.lit (.bool false)], args := [d1, d2, d3] }
  | _ => none }
def GaussUnitsWrongFalsely : Prop := gaussUnitsRow.holds Try.pinned (OpenSpec.ofChange gaussUnitsWrong)

/- THE SECOND FORM. 'bulk': how many values and letters a reading holds, each counted each time it is reached (what is shared counts as often as it is met; a slice's spare places count too). A statement '..UptoSaid' is the law's where the arguments, and the package variables that the reading takes, are together of bulk at most 1048576: NARROWER than '..Said'. Prove '..Said' where nothing that the law and all that it calls make is longer than what came in: it says more and counts as full. Else prove '..UptoSaid'. A law counts once. -/
mutual
def uptoBulk {H : Type} : DataW H → Nat
  | .lit (.string bytes) => bytes.length + 1
  | .lit _ => 1
  | .nil => 1
  | .ptr d => uptoBulk d + 1
  | .slice elems spare => uptoBulkAll elems + uptoBulkAll spare + 1
  | .agg parts => uptoBulkAll parts + 1
  | .iface _ d => uptoBulk d + 1
  | .map entries => uptoBulkEntries entries + 1
  | .held _ => 1
def uptoBulkAll {H : Type} : List (DataW H) → Nat
  | [] => 0
  | d :: r => uptoBulk d + uptoBulkAll r
def uptoBulkEntries {H : Type} : List (Lit × DataW H) → Nat
  | [] => 0
  | x :: r => uptoBulkEntry x + uptoBulkEntries r
def uptoBulkEntry {H : Type} : Lit × DataW H → Nat
  | (.string bytes, d) => bytes.length + uptoBulk d + 1
  | (_, d) => uptoBulk d + 1
 end
def uptoSmall : (H : Type) → List (DataW H) → Bool := fun _ ds => decide (uptoBulkAll ds ≤ 1048576)
def OpenSpec.upto (s : _root_.Go.ChangeSpec) : _root_.Go.OpenSpec := { _root_.Go.OpenSpec.ofChange s with cond := some uptoSmall }

/-- 'demesnelaw1.GaussErrors', WHERE WHAT IT READS IS OF BULK AT MOST 1048576: true; the input reads as it did. -/
def gaussErrorsUptoRow : OpenClaim := { program := "ytdificidpjjhpaa", sum := "7ec05f2d8fdbb1bdeebe73b507584dfce4c1f9ae4e3d8f2025728d4af80c5d38", func := "demesne/demesnelaw1.GaussErrors", spec := "gaussErrors", apart := false, narrowed := true }
def GaussErrorsUptoSaid : Prop := gaussErrorsUptoRow.holds Try.pinned (OpenSpec.upto gaussErrorsSpec)

/-- 'demesnelaw1.GaussLine', WHERE WHAT IT READS IS OF BULK AT MOST 1048576: true; the input reads as it did. -/
def gaussLineUptoRow : OpenClaim := { program := "ytdificidpjjhpaa", sum := "7ec05f2d8fdbb1bdeebe73b507584dfce4c1f9ae4e3d8f2025728d4af80c5d38", func := "demesne/demesnelaw1.GaussLine", spec := "gaussLine", apart := false, narrowed := true }
def GaussLineUptoSaid : Prop := gaussLineUptoRow.holds Try.pinned (OpenSpec.upto gaussLineSpec)

/-- 'demesnelaw1.GaussTurns', WHERE WHAT IT READS IS OF BULK AT MOST 1048576: true; the input reads as it did. -/
def gaussTurnsUptoRow : OpenClaim := { program := "ytdificidpjjhpaa", sum := "7ec05f2d8fdbb1bdeebe73b507584dfce4c1f9ae4e3d8f2025728d4af80c5d38", func := "demesne/demesnelaw1.GaussTurns", spec := "gaussTurns", apart := false, narrowed := true }
def GaussTurnsUptoSaid : Prop := gaussTurnsUptoRow.holds Try.pinned (OpenSpec.upto gaussTurnsSpec)

/-- 'demesnelaw1.GaussLaws', WHERE WHAT IT READS IS OF BULK AT MOST 1048576: true; the input reads as it did. -/
def gaussLawsUptoRow : OpenClaim := { program := "ytdificidpjjhpaa", sum := "7ec05f2d8fdbb1bdeebe73b507584dfce4c1f9ae4e3d8f2025728d4af80c5d38", func := "demesne/demesnelaw1.GaussLaws", spec := "gaussLaws", apart := false, narrowed := true }
def GaussLawsUptoSaid : Prop := gaussLawsUptoRow.holds Try.pinned (OpenSpec.upto gaussLawsSpec)

/-- 'demesnelaw1.GaussRests', WHERE WHAT IT READS IS OF BULK AT MOST 1048576: true; the input reads as it did. -/
def gaussRestsUptoRow : OpenClaim := { program := "ytdificidpjjhpaa", sum := "7ec05f2d8fdbb1bdeebe73b507584dfce4c1f9ae4e3d8f2025728d4af80c5d38", func := "demesne/demesnelaw1.GaussRests", spec := "gaussRests", apart := false, narrowed := true }
def GaussRestsUptoSaid : Prop := gaussRestsUptoRow.holds Try.pinned (OpenSpec.upto gaussRestsSpec)

/-- 'demesnelaw1.GaussUnits', WHERE WHAT IT READS IS OF BULK AT MOST 1048576: true; the input reads as it did. -/
def gaussUnitsUptoRow : OpenClaim := { program := "ytdificidpjjhpaa", sum := "7ec05f2d8fdbb1bdeebe73b507584dfce4c1f9ae4e3d8f2025728d4af80c5d38", func := "demesne/demesnelaw1.GaussUnits", spec := "gaussUnits", apart := false, narrowed := true }
def GaussUnitsUptoSaid : Prop := gaussUnitsUptoRow.holds Try.pinned (OpenSpec.upto gaussUnitsSpec)

end Rows
end Go.Proofs.Ytdificidpjjhpaa
