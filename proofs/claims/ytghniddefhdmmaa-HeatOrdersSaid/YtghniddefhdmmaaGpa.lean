/- What Parts of package gauss does with whole numbers: its contract. -/
import Derived.Test.YtghniddefhdmmaaGau
namespace Go.Proofs.Ytghniddefhdmmaa
open Go.RowKit Flo
set_option maxHeartbeats 1000000 in
theorem parts_any (a b : Nat) (n m : Int) (w : World) (ha : Is a n) (hb : Is b m) (hn : n.natAbs ≤ 4503599627370496) (hm : m.natAbs ≤ 4503599627370496) :
    Calls Try.prog 19 #[.complex .f64 a b] w fun e w' => e = .returned (.tuple #[.int .i64 n, .int .i64 m, .int .i64 0]) ∧ w = w' := by
  have HW := Lib.hid (fun W => within_yes a b _ n m _ W ha hb far52Is (by omega) (by omega) hn hm)
  have c1 := conv_fi ha (by omega)
  have c2 := conv_fi hb (by omega)
  clear ha hb hn hm
  go_enter Try.func19, Try.ntmps19
  go_wp2_with fail
  refine (HW.out _).mono ?_; rintro e w' ⟨rfl, rfl⟩
  go_wp2
  go_ret3
  exact ⟨rfl, rfl⟩
end Go.Proofs.Ytghniddefhdmmaa
