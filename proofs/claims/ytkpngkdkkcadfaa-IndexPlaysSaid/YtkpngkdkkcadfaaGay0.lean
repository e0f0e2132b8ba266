/- The contract of Make of the reference. -/
import Derived.Test.YtkpngkdkkcadfaaGau
namespace Go.Proofs.Ytkpngkdkkcadfaa
open Go.RowKit Flo
set_option maxHeartbeats 1000000 in
theorem make_any (n m : Int) (w : World) :
    Calls Try.prog 54 #[.int .i64 n, .int .i64 m] w fun e w' => e = .returned (.complex .f64 (F n) (F m)) ∧ w = w' := by
  have k3 := fun w => conv_if n w
  have k4 := fun w => conv_if m w
  go_enter Try.func54, Try.ntmps54
  go_wp2
  go_ret
  exact ⟨rfl, rfl⟩
end Go.Proofs.Ytkpngkdkkcadfaa
