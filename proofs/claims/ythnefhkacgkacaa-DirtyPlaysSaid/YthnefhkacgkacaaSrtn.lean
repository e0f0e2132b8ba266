/- pdqsortOrdered's helpers at words: the random numbers. -/
import Derived.Test.YthnefhkacgkacaaSrtq
import Derived.Sort.Row
import Derived.Laws.Bits64
import Derived.Laws.Bits64b
namespace Go.Proofs.Ythnefhkacgkacaa
open Go.RowKit

theorem xor_any (X Y : Nat) (hX : X < 18446744073709551616) (hY : Y < 18446744073709551616) : ∃ A : Nat, A < 18446744073709551616 ∧ bits .xor .u64 (X : Int) (Y : Int) = (A : Int) :=
  ⟨X ^^^ Y, Nat.xor_lt_two_pow (n := 64) hX hY, bits_xor_u64_nat X Y hX hY⟩

theorem wrap_any (Z : Int) : ∃ A : Nat, A < 18446744073709551616 ∧ IntKind.u64.wrap Z = (A : Int) := by
  rw [IntKind.wrap_u64]
  exact ⟨(Z % 18446744073709551616).toNat, by omega, by omega⟩

open Go.Sort in
theorem set_set (w : World) (g : Nat) (v v' : Value) : (w.setCell ⟨g, 0, none⟩ v).setCell ⟨g, 0, none⟩ v' = w.setCell ⟨g, 0, none⟩ v' := by
  rw [setCell_eq, setCell_eq, mapBlock_mapBlock, setCell_eq]
  congr 1
  funext c
  simp

set_option maxRecDepth 100000 in
set_option maxHeartbeats 2000000 in
theorem next_u (rb X : Nat) (hX : X < 18446744073709551616) (w : World) (hc : w.cell? ⟨rb, 0, none⟩ = some (.int .u64 X)) (hf : w.frozen? ⟨rb, 0, none⟩ = false) :
    Calls Try.prog 40 #[.pointer (some ⟨rb, 0, none⟩)] w fun e w' => ∃ Y : Nat, Y < 18446744073709551616 ∧ e = .returned (.int .u64 Y) ∧ ∃ q, w' = (w.setCell ⟨rb, 0, none⟩ (.int .u64 Y)).drewN q := by
  obtain ⟨a0, la0, ea0⟩ := wrap_any ((X : Int) * 8192)
  obtain ⟨A, lA, eA⟩ := xor_any X a0 hX la0
  obtain ⟨B, lB, eB⟩ := xor_any A (A / 128) lA (by omega)
  obtain ⟨b0, lb0, eb0⟩ := wrap_any ((B : Int) * 131072)
  obtain ⟨C, lC, eC⟩ := xor_any B b0 lB lb0
  have e1 : bits .xor .u64 (X : Int) (IntKind.u64.wrap ((X : Int) * 8192)) = (A : Int) := by rw [ea0, eA]
  have e2 : bits .xor .u64 (A : Int) ((A : Int) / 128) = (B : Int) := by rw [← eB]; rfl
  have e3 : bits .xor .u64 (B : Int) (IntKind.u64.wrap ((B : Int) * 131072)) = (C : Int) := by rw [eb0, eC]
  have LC := Lib.hid lC
  have hss := set_set w rb
  clear ea0 eA eB eb0 eC la0 lb0
  go_enter Try.func40, Try.ntmps40
  go_wp2
  go_region
  all_goals go_wp2
  all_goals go_region
  all_goals go_wp2
  all_goals go_region
  all_goals go_wp2
  go_ret
  exact ⟨C, LC.out, rfl, 3, rfl⟩

theorem len_small : ∀ k : Fin 256, 8 ≤ k.val → (Lib.bitLen k.val = 4 ∨ Lib.bitLen k.val = 5 ∨ Lib.bitLen k.val = 6 ∨ Lib.bitLen k.val = 7 ∨ Lib.bitLen k.val = 8) ∧ k.val < 2 ^ Lib.bitLen k.val ∧ 2 ^ Lib.bitLen k.val ≤ 2 * k.val := by decide +kernel

theorem pow_u (k : Nat) (h8 : 8 ≤ k) (hk : k ≤ 255) (w : World) :
    Calls Try.prog 39 #[.int .i64 k] w fun e w' => (∃ l : Nat, e = .returned (.int .u64 ((2 ^ l : Nat) : Int)) ∧ k < 2 ^ l ∧ 2 ^ l ≤ 2 * k) ∧ w' = w := by
  have hall : (Lib.bitLen k = 4 ∨ Lib.bitLen k = 5 ∨ Lib.bitLen k = 6 ∨ Lib.bitLen k = 7 ∨ Lib.bitLen k = 8) ∧ k < 2 ^ Lib.bitLen k ∧ 2 ^ Lib.bitLen k ≤ 2 * k := len_small ⟨k, by omega⟩ h8
  obtain ⟨hl, hlt, hle⟩ := hall
  have hL : ∀ w, Calls Try.prog 26 #[.int .u64 k] w fun e w' => e = .returned (.int .i64 (Lib.bitLen k)) ∧ w' = w := fun w => Any.bits_Len Try.lays125 (k : Int) w (by omega) (by omega)
  have HLT := Lib.hid hlt
  have HLE := Lib.hid hle
  have hk' : (k : Int) ≤ 255 := by omega
  clear hlt hle h8 hk
  rcases hl with e | e | e | e | e
  all_goals
    simp only [e] at hL
    have h1 := Lib.hid HLT.out
    have h2 := Lib.hid HLE.out
    rw [e] at h1 h2
    clear e HLT HLE
    go_enter Try.func39, Try.ntmps39
    go_wp2_with (go_at_call 26; refine (hL _).mono ?_; rintro e w' ⟨rfl, rfl⟩)
    go_ret
    exact ⟨⟨_, rfl, h1.out, h2.out⟩, rfl⟩
end Go.Proofs.Ythnefhkacgkacaa
