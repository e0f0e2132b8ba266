/- Plain facts on turns of whole numbers. -/
import Derived.Test.YteliehgndimhjaaGau
namespace Go.Proofs.Yteliehgndimhjaa
open Go.RowKit Flo

theorem tRe_one (n m : Int) : tRe n m 1 = -m := by unfold tRe; simp
theorem tIm_one (n m : Int) : tIm n m 1 = n := by unfold tIm; simp
theorem tRe_two (n m : Int) : tRe n m 2 = -n := by unfold tRe; simp
theorem tIm_two (n m : Int) : tIm n m 2 = -m := by unfold tIm; simp
theorem t_norm (n m k : Int) : tRe n m k * tRe n m k + tIm n m k * tIm n m k = n * n + m * m := by
  unfold tRe tIm
  by_cases h0 : k % 4 = 0
  · simp [h0]
  by_cases h1 : k % 4 = 1
  · simp [h1, Int.neg_mul, Int.mul_neg]; omega
  by_cases h2 : k % 4 = 2
  · simp [h2, Int.neg_mul, Int.mul_neg]
  · simp [h0, h1, h2, Int.neg_mul, Int.mul_neg]; omega
theorem t_abs (n m k : Int) (A : Nat) (hn : n.natAbs ≤ A) (hm : m.natAbs ≤ A) : (tRe n m k).natAbs ≤ A ∧ (tIm n m k).natAbs ≤ A := by
  unfold tRe tIm
  by_cases h0 : k % 4 = 0
  · simp [h0, hn, hm]
  by_cases h1 : k % 4 = 1
  · simp [h1, hn, hm]
  by_cases h2 : k % 4 = 2
  · simp [h2, hn, hm]
  · simp [h0, h1, h2, hn, hm]
theorem t_back (n m k : Int) : tRe (tRe n m k) (tIm n m k) (-(k.tmod 4)) = n ∧ tIm (tRe n m k) (tIm n m k) (-(k.tmod 4)) = m := by
  have e : (-(k.tmod 4)) % 4 = (-k) % 4 := by
    have h := Int.tdiv_mul_add_tmod k 4
    omega
  unfold tRe tIm
  rw [e]
  have hr : k % 4 = 0 ∨ k % 4 = 1 ∨ k % 4 = 2 ∨ k % 4 = 3 := by omega
  rcases hr with hr | hr | hr | hr
  · have : (-k) % 4 = 0 := by omega
    simp [hr, this]
  · have : (-k) % 4 = 3 := by omega
    simp [hr, this]
  · have : (-k) % 4 = 2 := by omega
    simp [hr, this]
  · have : (-k) % 4 = 1 := by omega
    simp [hr, this]

theorem ord_self (n : Int) (hn : n.natAbs ≤ 2 ^ 53) : FloatKind.f64.format.order (F n) (F n) = some .eq := ord_eq (F_is n) (F_is n) hn hn rfl

end Go.Proofs.Yteliehgndimhjaa
