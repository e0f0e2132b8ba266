/- A slice cut at a place: the two operations as equations. -/
import Derived.Test.YtkpngkdkkcadfaaMem
import Derived.WalkKit
namespace Go.Proofs.Ytkpngkdkkcadfaa
open Go Go.RowKit
section
variable {P : Program}

theorem addr_add0 (A : Option Addr) : A.map (·.add 0) = A := by
  cases A with
  | none => rfl
  | some a => simp [Addr.add]

theorem run_cut_lo (w : World) {t e : TypeId} {i : TypeInfo} (ht : P.underlying t = some (.slice e)) (hi : P.info? e = some i) (A : Option Addr) (n c k : Nat) (hk : k ≤ c) :
    (Instr.slice t (.slice A n c) none (some (.int .i64 (k : Int))) none).run P w = .ok (.slice A k c) w := by
  have e0 : (if c = 0 then A else A.map (·.add (0 * i.size))) = A := by
    rw [Nat.zero_mul, addr_add0]; split <;> rfl
  simp [Instr.slice, Instr.sliceBounds, Instr.sliceBound, asIntOf, run_underlying ht, sizeOf, typeInfo, hi, hk, Result.andThen]
  simpa using e0

theorem run_cut_hi (w : World) {t e : TypeId} {i : TypeInfo} (ht : P.underlying t = some (.slice e)) (hi : P.info? e = some i) (size : Nat) (hz : i.size = size) (A : Option Addr) (n c k : Nat) (hk : k ≤ n) :
    (Instr.slice t (.slice A n c) (some (.int .i64 (k : Int))) none none).run P w = .ok (.slice (if c = k then A else A.map (·.add (k * size))) (n - k) (c - k)) w := by
  simp [Instr.slice, Instr.sliceBounds, Instr.sliceBound, asIntOf, run_underlying ht, sizeOf, typeInfo, hi, hz, hk, Result.andThen]
end
end Go.Proofs.Ytkpngkdkkcadfaa
