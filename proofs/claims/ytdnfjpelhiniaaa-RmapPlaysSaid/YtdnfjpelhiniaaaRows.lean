/-
  No cell of these rows narrows 'for every input' (looked for: loops, veiled, ifaces, maps, wideKeys, modest, calm, conditions, laid).
  DERIVED. THE GIVEN ROWS OF THIS SEAT. 3 by the template 'for every input the law returns true; each argument reads behind the call as it read before'; 0 by the template 'total and deterministic' (their statements: YtdnfjpelhiniaaaTotals.lean).
  GIVEN WITH THE SEED: the statements are not yours to turn. If you find one false, say at which input.
  Laid BY PROGRAM, IN A SANDBOX (cutbox-rows.mjs): the forced cells as the released guide's own fill.sh prints them over the translation fb5c876e784c7bf2… (all of the seat's roots in one cut). By AI agents, Wed Nov 11 2026. No macro, syntax, notation, axiom, sorry.
-/
import Derived.Test.YtdnfjpelhiniaaaChecked
import GoSem.Claim
import GoSem.ClaimJoined
import GoSem.ClaimMapViews
import Derived.JoinedTies
import Derived.KernelRfl
namespace Go.Proofs.Ytdnfjpelhiniaaa
/- THE CELL 'sum', in the pinned program and in every row, IS THE sha256 OF THE DUMP (.gsa) THAT YtdnfjpelhiniaaaProg.lean LOADS. Nothing in Lean hashes anything: it is a label: what it is worth is what the hold of that sum in a sandbox is worth. -/
noncomputable def Try.pinned : Pinned := { name := "ytdnfjpelhiniaaa", sum := "fb5c876e784c7bf2654d0d507acd77682f914fff9c7c4d2722feb3bb740ee2f6", checked := Try.checked }
namespace Rows
def none {H : Type} : Left H := { results := [], args := [] }

/-- 'demesnelaw17.RmapPlays': WHATEVER THE INPUT: true; the input reads as it did. -/
def rmapPlaysSpec : ChangeSpec := { name := "rmapPlays", fn := fun _ => fun
  | [d] => { results := [.lit (.bool true)], args := [d] }
  | _ => none }
def rmapPlaysRow : OpenClaim := { program := "ytdnfjpelhiniaaa", sum := "fb5c876e784c7bf2654d0d507acd77682f914fff9c7c4d2722feb3bb740ee2f6", func := "demesne/demesnelaw17.RmapPlays", spec := "rmapPlays", unfollowed := true, recurses := true, plainKeys := false, apart := false }
def RmapPlaysSaid : Prop := rmapPlaysRow.holds Try.pinned (OpenSpec.ofChange rmapPlaysSpec)

/-- ITS FALSE NEIGHBOUR: 'it returns false'. Refute it at one input. -/
def rmapPlaysWrong : ChangeSpec := { name := "rmapPlays", fn := fun _ => fun
  | [d] => { results := [.lit (.bool false)], args := [d] }
  | _ => none }
def RmapPlaysWrongFalsely : Prop := rmapPlaysRow.holds Try.pinned (OpenSpec.ofChange rmapPlaysWrong)

/-- 'demesnelaw17.RmapOnce': WHATEVER THE INPUT: true; the input reads as it did. -/
def rmapOnceSpec : ChangeSpec := { name := "rmapOnce", fn := fun _ => fun
  | [d1, d2] => { results := [.lit (.bool true)], args := [d1, d2] }
  | _ => none }
def rmapOnceRow : OpenClaim := { program := "ytdnfjpelhiniaaa", sum := "fb5c876e784c7bf2654d0d507acd77682f914fff9c7c4d2722feb3bb740ee2f6", func := "demesne/demesnelaw17.RmapOnce", spec := "rmapOnce", unfollowed := true, recurses := true, plainKeys := false, apart := false }
def RmapOnceSaid : Prop := rmapOnceRow.holds Try.pinned (OpenSpec.ofChange rmapOnceSpec)

/-- ITS FALSE NEIGHBOUR: 'it returns false'. Refute it at one input. -/
def rmapOnceWrong : ChangeSpec := { name := "rmapOnce", fn := fun _ => fun
  | [d1, d2] => { results := [.lit (.bool false)], args := [d1, d2] }
  | _ => none }
def RmapOnceWrongFalsely : Prop := rmapOnceRow.holds Try.pinned (OpenSpec.ofChange rmapOnceWrong)

/-- 'demesnelaw17.RmapMoves': WHATEVER THE INPUT: true; the input reads as it did. -/
def rmapMovesSpec : ChangeSpec := { name := "rmapMoves", fn := fun _ => fun
  | [d] => { results := [.lit (.bool true)], args := [d] }
  | _ => none }
def rmapMovesRow : OpenClaim := { program := "ytdnfjpelhiniaaa", sum := "fb5c876e784c7bf2654d0d507acd77682f914fff9c7c4d2722feb3bb740ee2f6", func := "demesne/demesnelaw17.RmapMoves", spec := "rmapMoves", unfollowed := true, recurses := true, plainKeys := false, apart := false }
def RmapMovesSaid : Prop := rmapMovesRow.holds Try.pinned (OpenSpec.ofChange rmapMovesSpec)

/-- ITS FALSE NEIGHBOUR: 'it returns false'. Refute it at one input. -/
def rmapMovesWrong : ChangeSpec := { name := "rmapMoves", fn := fun _ => fun
  | [d] => { results := [.lit (.bool false)], args := [d] }
  | _ => none }
def RmapMovesWrongFalsely : Prop := rmapMovesRow.holds Try.pinned (OpenSpec.ofChange rmapMovesWrong)

/- THE SECOND FORM. 'bulk': how many values and letters a reading holds, each counted each time it is reached (what is shared counts as often as it is met; a slice's spare places count too). A statement '..UptoSaid' is the law's where the arguments, and the package variables that the reading takes, are together of bulk at most 1048576: NARROWER than '..Said'. Prove '..Said' where nothing that the law and all that it calls make is longer than what came in: it says more and counts as full. Else prove '..UptoSaid'. A law counts once. -/
mutual
def uptoBulk {H : Type} : DataW H → Nat
  | .lit (.string bytes) => bytes.length + 1
  | .lit _ => 1
  | .nil => 1
  | .ptr d => uptoBulk d + 1
  | .slice elems spare => uptoBulkAll elems + uptoBulkAll spare + 1
  | .agg parts => uptoBulkAll parts + 1
  | .iface _ d => uptoBulk d + 1
  | .map entries => uptoBulkEntries entries + 1
  | .held _ => 1
def uptoBulkAll {H : Type} : List (DataW H) → Nat
  | [] => 0
  | d :: r => uptoBulk d + uptoBulkAll r
def uptoBulkEntries {H : Type} : List (Lit × DataW H) → Nat
  | [] => 0
  | x :: r => uptoBulkEntry x + uptoBulkEntries r
def uptoBulkEntry {H : Type} : Lit × DataW H → Nat
  | (.string bytes, d) => bytes.length + uptoBulk d + 1
  | (_, d) => uptoBulk d + 1
 end
def uptoSmall : (H : Type) → List (DataW H) → Bool := fun _ ds => decide (uptoBulkAll ds ≤ 1048576)
def OpenSpec.upto (s : _root_.Go.ChangeSpec) : _root_.Go.OpenSpec := { _root_.Go.OpenSpec.ofChange s with cond := some uptoSmall }

/-- 'demesnelaw17.RmapPlays', WHERE WHAT IT READS IS OF BULK AT MOST 1048576: true; the input reads as it did. -/
def rmapPlaysUptoRow : OpenClaim := { program := "ytdnfjpelhiniaaa", sum := "fb5c876e784c7bf2654d0d507acd77682f914fff9c7c4d2722feb3bb740ee2f6", func := "demesne/demesnelaw17.RmapPlays", spec := "rmapPlays", unfollowed := true, recurses := true, plainKeys := false, apart := false, narrowed := true }
def RmapPlaysUptoSaid : Prop := rmapPlaysUptoRow.holds Try.pinned (OpenSpec.upto rmapPlaysSpec)

/-- 'demesnelaw17.RmapOnce', WHERE WHAT IT READS IS OF BULK AT MOST 1048576: true; the input reads as it did. -/
def rmapOnceUptoRow : OpenClaim := { program := "ytdnfjpelhiniaaa", sum := "fb5c876e784c7bf2654d0d507acd77682f914fff9c7c4d2722feb3bb740ee2f6", func := "demesne/demesnelaw17.RmapOnce", spec := "rmapOnce", unfollowed := true, recurses := true, plainKeys := false, apart := false, narrowed := true }
def RmapOnceUptoSaid : Prop := rmapOnceUptoRow.holds Try.pinned (OpenSpec.upto rmapOnceSpec)

/-- 'demesnelaw17.RmapMoves', WHERE WHAT IT READS IS OF BULK AT MOST 1048576: true; the input reads as it did. -/
def rmapMovesUptoRow : OpenClaim := { program := "ytdnfjpelhiniaaa", sum := "fb5c876e784c7bf2654d0d507acd77682f914fff9c7c4d2722feb3bb740ee2f6", func := "demesne/demesnelaw17.RmapMoves", spec := "rmapMoves", unfollowed := true, recurses := true, plainKeys := false, apart := false, narrowed := true }
def RmapMovesUptoSaid : Prop := rmapMovesUptoRow.holds Try.pinned (OpenSpec.upto rmapMovesSpec)

end Rows
end Go.Proofs.Ytdnfjpelhiniaaa
