/- What the function Add of package gauss does, called with whole numbers of limited size: its contract. -/
import Derived.Test.YteliehgndimhjaaGau
namespace Go.Proofs.Yteliehgndimhjaa
open Go.RowKit Flo

set_option maxHeartbeats 1000000 in
theorem add_any (a b c d : Nat) (n m u v : Int) (w : World) (ha : Is a n) (hb : Is b m) (hc : Is c u) (hd : Is d v) (hn : n.natAbs ≤ 4503599627370496) (hm : m.natAbs ≤ 4503599627370496) (hu : u.natAbs ≤ 4503599627370496) (hv : v.natAbs ≤ 4503599627370496)
    (h1 : (n + u).natAbs ≤ 4503599627370496) (h2 : (m + v).natAbs ≤ 4503599627370496) :
    Calls Try.prog 15 #[.complex .f64 a b, .complex .f64 c d] w fun e w' => e = .returned (.tuple #[.complex .f64 (F (n + u)) (F (m + v)), .int .i64 0]) ∧ w = w' := by
  obtain ⟨re, im, hadd, hre, him⟩ := csum_is rfl ha hb hc hd (by omega) (by omega) (by omega) (by omega) (by omega) (by omega)
  have hm2 := run_add hadd
  have HA := Lib.hid (fun W => within_yes a b _ n m _ W ha hb far52Is (by omega) (by omega) hn hm)
  have HB := Lib.hid (fun W => within_yes c d _ u v _ W hc hd far52Is (by omega) (by omega) hu hv)
  have HC := Lib.hid (fun W => within_yes re im _ _ _ _ W hre him far52Is (by omega) (by omega) h1 h2)
  have HP := Lib.hid (fun W => plain_any re im _ _ W hre him (by omega) (by omega))
  clear hadd hre him ha hb hc hd hn hm hu hv h1 h2
  go_enter Try.func15, Try.ntmps15
  go_wp2_with fail
  refine (HA.out _).mono ?_; rintro e w' ⟨rfl, rfl⟩
  go_wp2_with fail
  refine (HB.out _).mono ?_; rintro e w' ⟨rfl, rfl⟩
  go_wp2_with fail
  refine (HC.out _).mono ?_; rintro e w' ⟨rfl, rfl⟩
  go_wp2_with fail
  refine (HP.out _).mono ?_; rintro e w' ⟨rfl, rfl⟩
  go_wp2
  go_ret2
  exact ⟨rfl, rfl⟩

end Go.Proofs.Yteliehgndimhjaa
