/- The contract of conjugate of package gauss. -/
import Derived.Test.YtghniddefhdmmaaGau
namespace Go.Proofs.Ytghniddefhdmmaa
open Go.RowKit Flo

set_option maxHeartbeats 400000 in
theorem conj_any (a b : Nat) (w : World) :
    Calls Try.prog 33 #[.complex .f64 a b] w fun e w' => e = .returned (.complex .f64 a (Op.negFloat .f64 b)) ∧ w = w' := by
  have ng : ∀ w, (Op.unary .neg (.float .f64 b)).run Try.prog w = .ok (.float .f64 (Op.negFloat .f64 b)) w := fun _ => by kernel_rfl
  go_enter Try.func33, Try.ntmps33
  go_wp2
  go_ret
  exact ⟨rfl, rfl⟩

end Go.Proofs.Ytghniddefhdmmaa
