/-
  No cell of these rows narrows 'for every input' (looked for: loops, veiled, ifaces, maps, wideKeys, modest, calm, conditions, laid).
  DERIVED. THE GIVEN ROWS OF THIS SEAT. 3 by the template 'for every input the law returns true; each argument reads behind the call as it read before'; 0 by the template 'total and deterministic' (their statements: YtephgikeofkblaaTotals.lean).
  GIVEN WITH THE SEED: the statements are not yours to turn. If you find one false, say at which input.
  Laid BY PROGRAM, IN A SANDBOX (cutbox-rows.mjs): the forced cells as the released guide's own fill.sh prints them over the translation 816ed0df40acbfab… (all of the seat's roots in one cut). By AI agents, Wed Nov 11 2026. No macro, syntax, notation, axiom, sorry.
-/
import Derived.Test.YtephgikeofkblaaChecked
import GoSem.Claim
import GoSem.ClaimJoined
import GoSem.ClaimMapViews
import Derived.JoinedTies
import Derived.KernelRfl
namespace Go.Proofs.Ytephgikeofkblaa
/- THE CELL 'sum', in the pinned program and in every row, IS THE sha256 OF THE DUMP (.gsa) THAT YtephgikeofkblaaProg.lean LOADS. Nothing in Lean hashes anything: it is a label: what it is worth is what the hold of that sum in a sandbox is worth. -/
noncomputable def Try.pinned : Pinned := { name := "ytephgikeofkblaa", sum := "816ed0df40acbfab9a0e26ded05ee6e2a48cf92a55c8b60448ad739f0d93defb", checked := Try.checked }
namespace Rows
def none {H : Type} : Left H := { results := [], args := [] }

/-- 'demesnelaw21.HostPlays': WHATEVER THE INPUT: true; the input reads as it did. -/
def hostPlaysSpec : ChangeSpec := { name := "hostPlays", fn := fun _ => fun
  | [d] => { results := [.lit (.bool true)], args := [d] }
  | _ => none }
def hostPlaysRow : OpenClaim := { program := "ytephgikeofkblaa", sum := "816ed0df40acbfab9a0e26ded05ee6e2a48cf92a55c8b60448ad739f0d93defb", func := "demesne/demesnelaw21.HostPlays", spec := "hostPlays", recurses := true, apart := false }
def HostPlaysSaid : Prop := hostPlaysRow.holds Try.pinned (OpenSpec.ofChange hostPlaysSpec)

/-- ITS FALSE NEIGHBOUR: 'it returns false'. Refute it at one input. -/
def hostPlaysWrong : ChangeSpec := { name := "hostPlays", fn := fun _ => fun
  | [d] => { results := [.lit (.bool false)], args := [d] }
  | _ => none }
def HostPlaysWrongFalsely : Prop := hostPlaysRow.holds Try.pinned (OpenSpec.ofChange hostPlaysWrong)

/-- 'demesnelaw21.HostOnce': WHATEVER THE INPUT: true; the input reads as it did. -/
def hostOnceSpec : ChangeSpec := { name := "hostOnce", fn := fun _ => fun
  | [d] => { results := [.lit (.bool true)], args := [d] }
  | _ => none }
def hostOnceRow : OpenClaim := { program := "ytephgikeofkblaa", sum := "816ed0df40acbfab9a0e26ded05ee6e2a48cf92a55c8b60448ad739f0d93defb", func := "demesne/demesnelaw21.HostOnce", spec := "hostOnce", recurses := true, apart := false }
def HostOnceSaid : Prop := hostOnceRow.holds Try.pinned (OpenSpec.ofChange hostOnceSpec)

/-- ITS FALSE NEIGHBOUR: 'it returns false'. Refute it at one input. -/
def hostOnceWrong : ChangeSpec := { name := "hostOnce", fn := fun _ => fun
  | [d] => { results := [.lit (.bool false)], args := [d] }
  | _ => none }
def HostOnceWrongFalsely : Prop := hostOnceRow.holds Try.pinned (OpenSpec.ofChange hostOnceWrong)

/-- 'demesnelaw21.HostEnds': WHATEVER THE INPUT: true; the input reads as it did. -/
def hostEndsSpec : ChangeSpec := { name := "hostEnds", fn := fun _ => fun
  | [d] => { results := [.lit (.bool true)], args := [d] }
  | _ => none }
def hostEndsRow : OpenClaim := { program := "ytephgikeofkblaa", sum := "816ed0df40acbfab9a0e26ded05ee6e2a48cf92a55c8b60448ad739f0d93defb", func := "demesne/demesnelaw21.HostEnds", spec := "hostEnds", recurses := true, apart := false }
def HostEndsSaid : Prop := hostEndsRow.holds Try.pinned (OpenSpec.ofChange hostEndsSpec)

/-- ITS FALSE NEIGHBOUR: 'it returns false'. Refute it at one input. -/
def hostEndsWrong : ChangeSpec := { name := "hostEnds", fn := fun _ => fun
  | [d] => { results := [.lit (.bool false)], args := [d] }
  | _ => none }
def HostEndsWrongFalsely : Prop := hostEndsRow.holds Try.pinned (OpenSpec.ofChange hostEndsWrong)

/- THE SECOND FORM. 'bulk': how many values and letters a reading holds, each counted each time it is reached (what is shared counts as often as it is met; a slice's spare places count too). A statement '..UptoSaid' is the law's where the arguments, and the package variables that the reading takes, are together of bulk at most 1048576: NARROWER than '..Said'. Prove '..Said' where nothing that the law and all that it calls make is longer than what came in: it says more and counts as full. Else prove '..UptoSaid'. A law counts once. -/
mutual
def uptoBulk {H : Type} : DataW H → Nat
  | .lit (.string bytes) => bytes.length + 1
  | .lit _ => 1
  | .nil => 1
  | .ptr d => uptoBulk d + 1
  | .slice elems spare => uptoBulkAll elems + uptoBulkAll spare + 1
  | .agg parts => uptoBulkAll parts + 1
  | .iface _ d => uptoBulk d + 1
  | .map entries => uptoBulkEntries entries + 1
  | .held _ => 1
def uptoBulkAll {H : Type} : List (DataW H) → Nat
  | [] => 0
  | d :: r => uptoBulk d + uptoBulkAll r
def uptoBulkEntries {H : Type} : List (Lit × DataW H) → Nat
  | [] => 0
  | x :: r => uptoBulkEntry x + uptoBulkEntries r
def uptoBulkEntry {H : Type} : Lit × DataW H → Nat
  | (.string bytes, d) => bytes.length + uptoBulk d + 1
  | (_, d) => uptoBulk d + 1
 end
def uptoSmall : (H : Type) → List (DataW H) → Bool := fun _ ds => decide (uptoBulkAll ds ≤ 1048576)
def OpenSpec.upto (s : _root_.Go.ChangeSpec) : _root_.Go.OpenSpec := { _root_.Go.OpenSpec.ofChange s with cond := some uptoSmall }

/-- 'demesnelaw21.HostPlays', WHERE WHAT IT READS IS OF BULK AT MOST 1048576: true; the input reads as it did. -/
def hostPlaysUptoRow : OpenClaim := { program := "ytephgikeofkblaa", sum := "816ed0df40acbfab9a0e26ded05ee6e2a48cf92a55c8b60448ad739f0d93defb", func := "demesne/demesnelaw21.HostPlays", spec := "hostPlays", recurses := true, apart := false, narrowed := true }
def HostPlaysUptoSaid : Prop := hostPlaysUptoRow.holds Try.pinned (OpenSpec.upto hostPlaysSpec)

/-- 'demesnelaw21.HostOnce', WHERE WHAT IT READS IS OF BULK AT MOST 1048576: true; the input reads as it did. -/
def hostOnceUptoRow : OpenClaim := { program := "ytephgikeofkblaa", sum := "816ed0df40acbfab9a0e26ded05ee6e2a48cf92a55c8b60448ad739f0d93defb", func := "demesne/demesnelaw21.HostOnce", spec := "hostOnce", recurses := true, apart := false, narrowed := true }
def HostOnceUptoSaid : Prop := hostOnceUptoRow.holds Try.pinned (OpenSpec.upto hostOnceSpec)

/-- 'demesnelaw21.HostEnds', WHERE WHAT IT READS IS OF BULK AT MOST 1048576: true; the input reads as it did. -/
def hostEndsUptoRow : OpenClaim := { program := "ytephgikeofkblaa", sum := "816ed0df40acbfab9a0e26ded05ee6e2a48cf92a55c8b60448ad739f0d93defb", func := "demesne/demesnelaw21.HostEnds", spec := "hostEnds", recurses := true, apart := false, narrowed := true }
def HostEndsUptoSaid : Prop := hostEndsUptoRow.holds Try.pinned (OpenSpec.upto hostEndsSpec)

end Rows
end Go.Proofs.Ytephgikeofkblaa
