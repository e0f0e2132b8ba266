/- What Of of package gauss does: its contract. -/
import Derived.Test.YtghniddefhdmmaaGau
namespace Go.Proofs.Ytghniddefhdmmaa
open Go.RowKit Flo

set_option maxHeartbeats 1000000 in
theorem of_any (n m : Int) (w : World) (hn : n.natAbs ≤ 4503599627370496) (hm : m.natAbs ≤ 4503599627370496) :
    Calls Try.prog 25 #[.int .i64 n, .int .i64 m] w fun e w' => e = .returned (.tuple #[.complex .f64 (F n) (F m), .int .i64 0]) ∧ w = w' := by
  have k3 := fun w => conv_if n w
  have k4 := fun w => conv_if m w
  have b : -4503599627370496 ≤ n ∧ n ≤ 4503599627370496 ∧ -4503599627370496 ≤ m ∧ m ≤ 4503599627370496 := by omega
  obtain ⟨b1, b2, b3, b4⟩ := b
  clear hn hm
  go_enter Try.func25, Try.ntmps25
  go_wp2
  all_goals
    go_ret2
    exact ⟨rfl, rfl⟩

set_option maxHeartbeats 1000000 in
theorem of_far (w : World) :
    Calls Try.prog 25 #[.int .i64 9007199254740992, .int .i64 0] w fun e w' => e = .returned (.tuple #[.complex .f64 0 0, .int .i64 2]) ∧ w = w' := by
  go_enter Try.func25, Try.ntmps25
  go_wp2
  go_ret2
  exact ⟨rfl, rfl⟩

end Go.Proofs.Ytghniddefhdmmaa
