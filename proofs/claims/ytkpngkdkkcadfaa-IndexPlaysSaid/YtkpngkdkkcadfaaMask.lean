/- A bit mask of the lowest bits is a remainder. -/
import Derived.IntWalk
import Derived.WalkKit
namespace Go.Proofs.Ytkpngkdkkcadfaa
open Go.RowKit

/-- A bit mask of the lowest bits is a remainder. -/
theorem mask64 (x : Int) (j : Nat) (hj : j ≤ 62) : bits .and .i64 x (2 ^ j - 1) = x % 2 ^ j := by
  have hp : (2 : Nat) ^ j ≤ 2 ^ 62 := Nat.pow_le_pow_right (by omega) hj
  have hp1 : 0 < (2 : Nat) ^ j := Nat.two_pow_pos j
  have e2 : ((2 : Int) ^ j) = ((2 ^ j : Nat) : Int) := by simp
  show IntKind.i64.wrap ((BitVec.ofInt 64 x &&& BitVec.ofInt 64 (2 ^ j - 1)).toNat : Int) = _
  have e1 : (BitVec.ofInt 64 ((2 : Int) ^ j - 1)).toNat = 2 ^ j - 1 := by
    rw [BitVec.toNat_ofInt, e2]; omega
  rw [BitVec.toNat_and, e1, Nat.and_two_pow_sub_one_eq_mod, BitVec.toNat_ofInt]
  have e3 : (((x % ((2 ^ 64 : Nat) : Int)).toNat % 2 ^ j : Nat) : Int) = x % 2 ^ j := by
    rw [Int.natCast_emod, Int.toNat_of_nonneg (Int.emod_nonneg _ (by omega)), e2]
    refine Int.emod_emod_of_dvd _ ?_
    exact Int.natCast_dvd_natCast.2 (Nat.pow_dvd_pow 2 (by omega))
  rw [e3, e2]
  have h1 := Int.emod_nonneg x (b := ((2 ^ j : Nat) : Int)) (by omega)
  have h2 := Int.emod_lt_of_pos x (b := ((2 ^ j : Nat) : Int)) (by omega)
  exact IntWalk.i64_in _ (by omega)

end Go.Proofs.Ytkpngkdkkcadfaa
