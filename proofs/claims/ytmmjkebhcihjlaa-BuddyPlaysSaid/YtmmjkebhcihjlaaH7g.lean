/- The walk of the statement BuddyPlays, at every argument. -/
import Derived.Test.YtmmjkebhcihjlaaH7e
namespace Go.Proofs.Ytmmjkebhcihjlaa
open Go.RowKit

theorem buddyPlays_walk (A0 A1 : Int) (A : Option Addr) (m c : Nat) (xs : List Value) (w : World) (hr : Reads w w.heap.size 3 A m xs) (hx : CellsR [.i .i64, .i .i64, .i .i64] xs) :
    Calls Try.prog 3 #[.int .i64 A0, .int .i64 A1, .slice A m c] w fun e w' => e = .returned (.bool true) ∧ Below w.heap.size w w' := by
  by_cases h : A0 < 0 ∨ 1048576 < A0 ∨ A1 < 0 ∨ 1048576 - A0 < A1
  · exact buddyPlays_bad A0 A1 A m c w h
  · by_cases hf : 1500 < A1
    · exact buddyPlays_far A0 A1 A m c w hf (by omega) (by omega) (by omega)
    · obtain ⟨fi, rfl⟩ : ∃ fi : Nat, A0 = fi := ⟨A0.toNat, by omega⟩
      obtain ⟨n, rfl⟩ : ∃ n : Nat, A1 = n := ⟨A1.toNat, by omega⟩
      exact buddyPlays_ok fi n A m c xs w (by omega) (by omega) hr hx
end Go.Proofs.Ytmmjkebhcihjlaa
