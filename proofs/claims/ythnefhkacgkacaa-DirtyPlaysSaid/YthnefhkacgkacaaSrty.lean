/- pdqsortOrdered's helpers at words: reverseRange. -/
import Derived.Test.YthnefhkacgkacaaSrtx
namespace Go.Proofs.Ythnefhkacgkacaa
open Go.RowKit

def RevU (w : World) (base g n cap : Nat) (d0 : List Int) (a b : Nat) (v6 v7 : Value) (wr : World) : Prop := ∃ (i j : Nat) (d : List Int), v6 = .int .i64 i ∧ v7 = .int .i64 ((j : Int) - 1) ∧ a ≤ i ∧ i ≤ b ∧ j ≤ b ∧ RowU w base g n cap d0 a b d wr

set_option maxRecDepth 100000 in
set_option maxHeartbeats 4000000 in
theorem reverse_u (base g off n cap a b : Nat) (hoff : off = 0) (d : List Int) (w : World) (h : w.ownsRow base 29 1 (.slice (some ⟨g, 0, none⟩) n cap) n (d.map (Value.int .u64))) (hab : a ≤ b) (hb : b ≤ n) (hsz : n < 4611686018427387904) :
    Calls Try.prog 31 #[.slice (some ⟨g, off, none⟩) n cap, .int .i64 a, .int .i64 b] w fun e w' =>
      e = .returned (.tuple #[]) ∧ ∃ d', RowU w base g n cap d a b d' w' := by
  have HO := Lib.hid hoff
  clear hoff
  go_enter Try.func31, Try.ntmps31
  go_wp2
  go_loopw [6, 7] (RevU w base g n cap d a b) (fun v u _ => cnt u + 1 - cnt v)
  case atStart => exact ⟨a, b, d, rfl, by go_num, Nat.le_refl _, hab, Nat.le_refl _, RowU.start h a b⟩
  case round =>
    obtain ⟨i, j, dk, rfl, rfl, hai, hib, hjb, hrow⟩ := hrel
    obtain ⟨G, hG⟩ : ∃ G : Nat → Int, ∀ t, G t = ele dk t := ⟨fun t => ele dk t, fun _ => rfl⟩
    have hcw : ∀ t, t < n → wr.cell? ⟨g, off + t, none⟩ = some (.int .u64 (G t)) := fun t ht => by rw [hG, HO.out, Nat.zero_add]; exact hrow.cell t ht
    have hfw : ∀ t, t < n → wr.frozen? ⟨g, off + t, none⟩ = false := fun t _ => by rw [HO.out, Nat.zero_add]; exact hrow.frozen t
    have HJ := Lib.hid hrow
    have HG := Lib.hid hG
    clear hrow hG h
    by_cases hlt : i + 1 < j
    · obtain ⟨k, rfl⟩ : ∃ k, j = k + 1 := ⟨j - 1, by omega⟩
      rw [show ((k + 1 : Nat) : Int) - 1 = (k : Int) by omega]
      go_wp2
      go_region
      all_goals go_wp2
      go_roundw
      case rel =>
        refine ⟨i + 1, k, swp dk i k, by go_num, by go_num, by omega, by omega, by omega, ?_⟩
        rw [HG.out, HG.out, HO.out, Nat.zero_add, Nat.zero_add]
        exact (HJ.out.drewN _).swap ⟨by omega, by omega⟩ ⟨by omega, by omega⟩ hb
      case measure => simp [cnt]; omega
    · go_wp2
      go_end0
      exact ⟨rfl, dk, HJ.out⟩
end Go.Proofs.Ythnefhkacgkacaa
