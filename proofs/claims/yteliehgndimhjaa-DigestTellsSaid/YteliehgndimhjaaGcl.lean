/- The contract of Clean of the reference. -/
import Derived.Test.YteliehgndimhjaaGau
namespace Go.Proofs.Yteliehgndimhjaa
open Go.RowKit Flo

theorem one_by_zero : floatBits .quo .f64 4607182418800017408 0 = some 9218868437227405312 := by decide +kernel
theorem inf_gt : FloatKind.f64.format.order 9218868437227405312 0 = some .gt := by decide +kernel

set_option maxHeartbeats 1000000 in
theorem clean_any (n m : Int) (w : World) (hn : n.natAbs ≤ 2 ^ 53) (hm : m.natAbs ≤ 2 ^ 53) :
    Calls Try.prog 11 #[.complex .f64 (F n) (F m)] w fun e w' => e = .returned (.bool true) ∧ w = w' := by
  have hq : ∀ w, (binOp .quo 48 (.float .f64 4607182418800017408) (.float .f64 0)).run Try.prog w = .ok (.float .f64 9218868437227405312) w := fun w => run_float_arith w .quo _ .f64 _ _ _ one_by_zero
  have hi := inf_gt
  have hoo : ∀ {n : Int}, n.natAbs ≤ 2 ^ 53 → ∃ x c, F n = x ∧ FloatKind.f64.format.order x 0 = some c ∧ (c = .lt ∨ c = .gt ∨ (c = .eq ∧ x = 0)) := by
    intro n hn
    by_cases h0 : n = 0
    · exact ⟨_, _, rfl, ord_eq (F_is n) zeroF hn (by omega) h0, .inr (.inr ⟨rfl, by rw [h0]; exact F_zero⟩)⟩
    · obtain ⟨c, h1, h2⟩ := zero_orders (F_is n) hn h0
      exact ⟨_, c, rfl, h1, by rcases h2 with h | h <;> simp [h]⟩
  obtain ⟨x, c, e1, o1, k1⟩ := hoo hn
  obtain ⟨y, d, e2, o2, k2⟩ := hoo hm
  rw [e1, e2]
  clear e1 e2 hoo hn hm
  rcases k1 with rfl | rfl | ⟨rfl, rfl⟩ <;> rcases k2 with rfl | rfl | ⟨rfl, rfl⟩
  all_goals
    go_enter Try.func11, Try.ntmps11
    go_wp2
    go_ret
    exact ⟨rfl, rfl⟩

end Go.Proofs.Yteliehgndimhjaa
