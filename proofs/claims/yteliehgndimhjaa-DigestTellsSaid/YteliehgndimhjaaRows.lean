/-
  No cell of these rows narrows 'for every input' (looked for: loops, veiled, ifaces, maps, wideKeys, modest, calm, conditions, laid).
  DERIVED. THE GIVEN ROWS OF THIS SEAT. 4 by the template 'for every input the law returns true; each argument reads behind the call as it read before'; 0 by the template 'total and deterministic' (their statements: YteliehgndimhjaaTotals.lean).
  GIVEN WITH THE SEED: the statements are not yours to turn. If you find one false, say at which input.
  Laid BY PROGRAM, IN A SANDBOX (cutbox-rows.mjs): the forced cells as the released guide's own fill.sh prints them over the translation f0e7e446fd6fcfbd… (all of the seat's roots in one cut). By AI agents, Wed Nov 11 2026. No macro, syntax, notation, axiom, sorry.
-/
import Derived.Test.YteliehgndimhjaaChecked
import GoSem.Claim
import GoSem.ClaimJoined
import GoSem.ClaimMapViews
import Derived.JoinedTies
import Derived.KernelRfl
namespace Go.Proofs.Yteliehgndimhjaa
/- THE CELL 'sum', in the pinned program and in every row, IS THE sha256 OF THE DUMP (.gsa) THAT YteliehgndimhjaaProg.lean LOADS. Nothing in Lean hashes anything: it is a label: what it is worth is what the hold of that sum in a sandbox is worth. -/
noncomputable def Try.pinned : Pinned := { name := "yteliehgndimhjaa", sum := "f0e7e446fd6fcfbdad1200f4d01f5610e185426b089adf98d32d79548e283b7c", checked := Try.checked }
namespace Rows
def none {H : Type} : Left H := { results := [], args := [] }

/-- 'demesnelaw3.DigestTells': WHATEVER THE INPUT: true; the input reads as it did. -/
def digestTellsSpec : ChangeSpec := { name := "digestTells", fn := fun _ => fun
  | [d1, d2, d3, d4] => { results := [.lit (.bool true)], args := [d1, d2, d3, d4] }
  | _ => none }
def digestTellsRow : OpenClaim := { program := "yteliehgndimhjaa", sum := "f0e7e446fd6fcfbdad1200f4d01f5610e185426b089adf98d32d79548e283b7c", func := "demesne/demesnelaw3.DigestTells", spec := "digestTells", apart := false }
def DigestTellsSaid : Prop := digestTellsRow.holds Try.pinned (OpenSpec.ofChange digestTellsSpec)

/-- ITS FALSE NEIGHBOUR: 'it returns false'. Refute it at one input. -/
def digestTellsWrong : ChangeSpec := { name := "digestTells", fn := fun _ => fun
  | [d1, d2, d3, d4] => { results := [.lit (.bool false)], args := [d1, d2, d3, d4] }
  | _ => none }
def DigestTellsWrongFalsely : Prop := digestTellsRow.holds Try.pinned (OpenSpec.ofChange digestTellsWrong)

/-- 'demesnelaw3.DigestFollows': WHATEVER THE INPUT: true; the input reads as it did. -/
def digestFollowsSpec : ChangeSpec := { name := "digestFollows", fn := fun _ => fun
  | [d1, d2, d3, d4] => { results := [.lit (.bool true)], args := [d1, d2, d3, d4] }
  | _ => none }
def digestFollowsRow : OpenClaim := { program := "yteliehgndimhjaa", sum := "f0e7e446fd6fcfbdad1200f4d01f5610e185426b089adf98d32d79548e283b7c", func := "demesne/demesnelaw3.DigestFollows", spec := "digestFollows", apart := false }
def DigestFollowsSaid : Prop := digestFollowsRow.holds Try.pinned (OpenSpec.ofChange digestFollowsSpec)

/-- ITS FALSE NEIGHBOUR: 'it returns false'. Refute it at one input. -/
def digestFollowsWrong : ChangeSpec := { name := "digestFollows", fn := fun _ => fun
  | [d1, d2, d3, d4] => { results := [.lit (.bool false)], args := [d1, d2, d3, d4] }
  | _ => none }
def DigestFollowsWrongFalsely : Prop := digestFollowsRow.holds Try.pinned (OpenSpec.ofChange digestFollowsWrong)

/-- 'demesnelaw3.DigestLikes': WHATEVER THE INPUT: true; the input reads as it did. -/
def digestLikesSpec : ChangeSpec := { name := "digestLikes", fn := fun _ => fun
  | [d1, d2, d3, d4, d5] => { results := [.lit (.bool true)], args := [d1, d2, d3, d4, d5] }
  | _ => none }
def digestLikesRow : OpenClaim := { program := "yteliehgndimhjaa", sum := "f0e7e446fd6fcfbdad1200f4d01f5610e185426b089adf98d32d79548e283b7c", func := "demesne/demesnelaw3.DigestLikes", spec := "digestLikes", apart := false }
def DigestLikesSaid : Prop := digestLikesRow.holds Try.pinned (OpenSpec.ofChange digestLikesSpec)

/-- ITS FALSE NEIGHBOUR: 'it returns false'. Refute it at one input. -/
def digestLikesWrong : ChangeSpec := { name := "digestLikes", fn := fun _ => fun
  | [d1, d2, d3, d4, d5] => { results := [.lit (.bool false)], args := [d1, d2, d3, d4, d5] }
  | _ => none }
def DigestLikesWrongFalsely : Prop := digestLikesRow.holds Try.pinned (OpenSpec.ofChange digestLikesWrong)

/-- 'demesnelaw3.DigestAdds': WHATEVER THE INPUT: true; the input reads as it did. -/
def digestAddsSpec : ChangeSpec := { name := "digestAdds", fn := fun _ => fun
  | [d1, d2] => { results := [.lit (.bool true)], args := [d1, d2] }
  | _ => none }
def digestAddsRow : OpenClaim := { program := "yteliehgndimhjaa", sum := "f0e7e446fd6fcfbdad1200f4d01f5610e185426b089adf98d32d79548e283b7c", func := "demesne/demesnelaw3.DigestAdds", spec := "digestAdds", apart := false }
def DigestAddsSaid : Prop := digestAddsRow.holds Try.pinned (OpenSpec.ofChange digestAddsSpec)

/-- ITS FALSE NEIGHBOUR: 'it returns false'. Refute it at one input. -/
def digestAddsWrong : ChangeSpec := { name := "digestAdds", fn := fun _ => fun
  | [d1, d2] => { results := [.lit (.bool false)], args := [d1, d2] }
  | _ => none }
def DigestAddsWrongFalsely : Prop := digestAddsRow.holds Try.pinned (OpenSpec.ofChange digestAddsWrong)

/- THE SECOND FORM. 'bulk': how many values and letters a reading holds, each counted each time it is reached (what is shared counts as often as it is met; a slice's spare places count too). A statement '..UptoSaid' is the law's where the arguments, and the package variables that the reading takes, are together of bulk at most 1048576: NARROWER than '..Said'. Prove '..Said' where nothing that the law and all that it calls make is longer than what came in: it says more and counts as full. Else prove '..UptoSaid'. A law counts once. -/
mutual
def uptoBulk {H : Type} : DataW H → Nat
  | .lit (.string bytes) => bytes.length + 1
  | .lit _ => 1
  | .nil => 1
  | .ptr d => uptoBulk d + 1
  | .slice elems spare => uptoBulkAll elems + uptoBulkAll spare + 1
  | .agg parts => uptoBulkAll parts + 1
  | .iface _ d => uptoBulk d + 1
  | .map entries => uptoBulkEntries entries + 1
  | .held _ => 1
def uptoBulkAll {H : Type} : List (DataW H) → Nat
  | [] => 0
  | d :: r => uptoBulk d + uptoBulkAll r
def uptoBulkEntries {H : Type} : List (Lit × DataW H) → Nat
  | [] => 0
  | x :: r => uptoBulkEntry x + uptoBulkEntries r
def uptoBulkEntry {H : Type} : Lit × DataW H → Nat
  | (.string bytes, d) => bytes.length + uptoBulk d + 1
  | (_, d) => uptoBulk d + 1
 end
def uptoSmall : (H : Type) → List (DataW H) → Bool := fun _ ds => decide (uptoBulkAll ds ≤ 1048576)
def OpenSpec.upto (s : _root_.Go.ChangeSpec) : _root_.Go.OpenSpec := { _root_.Go.OpenSpec.ofChange s with cond := some uptoSmall }

/-- 'demesnelaw3.DigestTells', WHERE WHAT IT READS IS OF BULK AT MOST 1048576: true; the input reads as it did. -/
def digestTellsUptoRow : OpenClaim := { program := "yteliehgndimhjaa", sum := "f0e7e446fd6fcfbdad1200f4d01f5610e185426b089adf98d32d79548e283b7c", func := "demesne/demesnelaw3.DigestTells", spec := "digestTells", apart := false, narrowed := true }
def DigestTellsUptoSaid : Prop := digestTellsUptoRow.holds Try.pinned (OpenSpec.upto digestTellsSpec)

/-- 'demesnelaw3.DigestFollows', WHERE WHAT IT READS IS OF BULK AT MOST 1048576: true; the input reads as it did. -/
def digestFollowsUptoRow : OpenClaim := { program := "yteliehgndimhjaa", sum := "f0e7e446fd6fcfbdad1200f4d01f5610e185426b089adf98d32d79548e283b7c", func := "demesne/demesnelaw3.DigestFollows", spec := "digestFollows", apart := false, narrowed := true }
def DigestFollowsUptoSaid : Prop := digestFollowsUptoRow.holds Try.pinned (OpenSpec.upto digestFollowsSpec)

/-- 'demesnelaw3.DigestLikes', WHERE WHAT IT READS IS OF BULK AT MOST 1048576: true; the input reads as it did. -/
def digestLikesUptoRow : OpenClaim := { program := "yteliehgndimhjaa", sum := "f0e7e446fd6fcfbdad1200f4d01f5610e185426b089adf98d32d79548e283b7c", func := "demesne/demesnelaw3.DigestLikes", spec := "digestLikes", apart := false, narrowed := true }
def DigestLikesUptoSaid : Prop := digestLikesUptoRow.holds Try.pinned (OpenSpec.upto digestLikesSpec)

/-- 'demesnelaw3.DigestAdds', WHERE WHAT IT READS IS OF BULK AT MOST 1048576: true; the input reads as it did. -/
def digestAddsUptoRow : OpenClaim := { program := "yteliehgndimhjaa", sum := "f0e7e446fd6fcfbdad1200f4d01f5610e185426b089adf98d32d79548e283b7c", func := "demesne/demesnelaw3.DigestAdds", spec := "digestAdds", apart := false, narrowed := true }
def DigestAddsUptoSaid : Prop := digestAddsUptoRow.holds Try.pinned (OpenSpec.upto digestAddsSpec)

end Rows
end Go.Proofs.Yteliehgndimhjaa
