/- Two places are compared field by field. -/
import Derived.Test.YtdnfjpelhiniaaaRows
import Derived.Laws.StructEq
import Derived.ChangeKeysEq
import Derived.WalkKit
namespace Go.Proofs.Ytdnfjpelhiniaaa
open Go.RowKit

theorem place_eqF (s q s' q' : Int) (W : World) : (Op.equalIn 10000 31 (.agg #[.int .i64 s, .int .u64 q]) (.agg #[.int .i64 s', .int .u64 q'])).run Try.prog W = .ok (s == s' && q == q') W := by
  have h0 : ∀ (a b : Int) (w : World), (part 3 #[.int .i64 a, .int .u64 b] 0).run Try.prog w = .ok (.int .i64 a) w := fun a b w => run_part_plain w (by kernel_rfl) rfl
  have h1 : ∀ (a b : Int) (w : World), (part 29 #[.int .i64 a, .int .u64 b] 1).run Try.prog w = .ok (.int .u64 b) w := fun a b w => run_part_plain w (by kernel_rfl) rfl
  have he : ∀ (a b : Int) (w : World), (Op.equalIn 9999 3 (.int .i64 a) (.int .i64 b)).run Try.prog w = .ok (a == b) w := fun a b w => run_equalIn_int w 9998 3 .i64 .i64 a b Try.underlying3
  have he2 : ∀ (a b : Int) (w : World), (Op.equalIn 9999 29 (.int .u64 a) (.int .u64 b)).run Try.prog w = .ok (a == b) w := fun a b w => run_equalIn_int w 9998 29 .u64 .u64 a b Try.underlying29
  rw [run_equalIn_agg W 9999 31 _ _ (by kernel_rfl) (by kernel_rfl)]
  simp only [Program.fieldsOf, Try.underlying31]
  simp only [Op.eqFields, Sem.run_bind, Sem.run_ite, Sem.run_pure, h0, h1, he, he2, Result.andThen_ok]
  cases h2 : s == s' <;> cases h3 : q == q' <;> simp

theorem place_eql (s q s' q' : Int) (W : World) : (binOp .eql 31 (.agg #[.int .i64 s, .int .u64 q]) (.agg #[.int .i64 s', .int .u64 q'])).run Try.prog W = .ok (.bool (s == s' && q == q')) W := by
  rw [run_eql_struct, place_eqF]; rfl

theorem place_neq (s q s' q' : Int) (W : World) : (binOp .neq 31 (.agg #[.int .i64 s, .int .u64 q]) (.agg #[.int .i64 s', .int .u64 q'])).run Try.prog W = .ok (.bool (!(s == s' && q == q'))) W := by
  rw [run_neq_struct, place_eqF]; rfl
end Go.Proofs.Ytdnfjpelhiniaaa
