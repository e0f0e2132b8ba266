/- Two [2]int are compared cell by cell. -/
import Derived.Test.YtmmjkebhcihjlaaBuq
import Derived.Laws.StructEq
import Derived.ChangeKeysEq
import Derived.WalkKit
namespace Go.Proofs.Ytmmjkebhcihjlaa
open Go.RowKit

theorem pair_eqF (s q s' q' : Int) (W : World) : (Op.equalIn 10000 34 (.agg #[.int .i64 s, .int .i64 q]) (.agg #[.int .i64 s', .int .i64 q'])).run Try.prog W = .ok (s == s' && q == q') W := by
  have h0 : ∀ (a b : Int) (w : World), (part 3 #[.int .i64 a, .int .i64 b] 0).run Try.prog w = .ok (.int .i64 a) w := fun a b w => run_part_plain w (by kernel_rfl) rfl
  have h1 : ∀ (a b : Int) (w : World), (part 3 #[.int .i64 a, .int .i64 b] 1).run Try.prog w = .ok (.int .i64 b) w := fun a b w => run_part_plain w (by kernel_rfl) rfl
  have he : ∀ (a b : Int) (w : World), (Op.equalIn 9999 3 (.int .i64 a) (.int .i64 b)).run Try.prog w = .ok (a == b) w := fun a b w => run_equalIn_int w 9998 3 .i64 .i64 a b Try.underlying3
  obtain ⟨i0, hi0, _, _, _⟩ := info_parts (show (Try.prog.info? 3).map (fun i => (i.zero, i.size, i.bytes)) = some (some (.int .i64 0), 1, 8) by kernel_rfl)
  have hc : Try.prog.cellsOf 3 = 1 := by kernel_rfl
  rw [run_equalIn_array W 9999 _ _ Try.underlying34 hi0, hc, show List.range 2 = [0, 1] from rfl]
  simp only [Op.eqItems, Sem.run_bind, Sem.run_ite, Sem.run_pure, Nat.zero_mul, Nat.one_mul, h0, h1, he, Result.andThen_ok]
  cases h2 : s == s' <;> cases h3 : q == q' <;> simp

theorem pair_eql (s q s' q' : Int) (W : World) : (binOp .eql 34 (.agg #[.int .i64 s, .int .i64 q]) (.agg #[.int .i64 s', .int .i64 q'])).run Try.prog W = .ok (.bool (s == s' && q == q')) W := by
  rw [run_eql_struct, pair_eqF]; rfl

theorem pair_neq (s q s' q' : Int) (W : World) : (binOp .neq 34 (.agg #[.int .i64 s, .int .i64 q]) (.agg #[.int .i64 s', .int .i64 q'])).run Try.prog W = .ok (.bool (!(s == s' && q == q'))) W := by
  rw [run_neq_struct, pair_eqF]; rfl
end Go.Proofs.Ytmmjkebhcihjlaa
