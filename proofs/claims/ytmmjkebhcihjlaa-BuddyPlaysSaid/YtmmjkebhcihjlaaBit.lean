/- Bit operations with powers of two, as arithmetic. -/
import Derived.Test.YtmmjkebhcihjlaaMask
import Derived.Test.YtmmjkebhcihjlaaBud
namespace Go.Proofs.Ytmmjkebhcihjlaa
open Go.RowKit

theorem bit_andnot (a j : Nat) (ha : a < 2 ^ 62) (hj : j ≤ 62) : bits .andNot .i64 (a : Int) ((2 : Int) ^ j - 1) = ((a / 2 ^ j * 2 ^ j : Nat) : Int) := by
  have hp : (2 : Nat) ^ j ≤ 2 ^ 62 := Nat.pow_le_pow_right (by omega) hj
  have hp1 : 0 < (2 : Nat) ^ j := Nat.two_pow_pos j
  have e2 : ((2 : Int) ^ j - 1) = ((2 ^ j - 1 : Nat) : Int) := by
    rw [Int.natCast_sub (by omega)]; simp
  have hle : a / 2 ^ j * 2 ^ j ≤ a := Nat.div_mul_le_self _ _
  rw [e2]
  show IntKind.i64.wrap ((BitVec.ofInt 64 (a : Int) &&& ~~~ BitVec.ofInt 64 ((2 ^ j - 1 : Nat) : Int)).toNat : Int) = _
  have e3 : (BitVec.ofInt 64 (a : Int) &&& ~~~ BitVec.ofInt 64 ((2 ^ j - 1 : Nat) : Int)) = BitVec.ofNat 64 (a / 2 ^ j * 2 ^ j) := by
    rw [BitVec.ofInt_natCast, BitVec.ofInt_natCast]
    apply BitVec.eq_of_getLsbD_eq
    intro i hi
    rw [BitVec.getLsbD_and, BitVec.getLsbD_not, BitVec.getLsbD_ofNat, BitVec.getLsbD_ofNat, BitVec.getLsbD_ofNat, Nat.testBit_two_pow_sub_one, Nat.testBit_mul_two_pow, Nat.testBit_div_two_pow]
    simp only [hi, decide_true, Bool.true_and]
    by_cases h : i < j
    · simp [h]; omega
    · have : i - j + j = i := by omega
      simp [h, this, Nat.le_of_not_lt h]
  rw [e3, BitVec.toNat_ofNat, Nat.mod_eq_of_lt (by omega)]
  exact IntWalk.i64_in _ (by omega)

theorem tb_scaled (q j i : Nat) : (q * 2 ^ j).testBit i = (decide (j ≤ i) && if i = j then decide (q % 2 = 1) else (q / 2).testBit (i - j - 1)) := by
  rw [Nat.testBit_mul_two_pow]
  by_cases h : j ≤ i
  · simp only [h, decide_true, Bool.true_and]
    by_cases e : i = j
    · subst e
      simp [Nat.testBit_zero]
    · rw [if_neg e, show i - j = (i - j - 1) + 1 by omega, Nat.testBit_succ]
      simp
  · simp [h]

theorem bit_xor (q j : Nat) (ha : q * 2 ^ j + 2 ^ j < 2 ^ 62) (hj : j ≤ 62) : bits .xor .i64 ((q * 2 ^ j : Nat) : Int) ((2 ^ j : Nat) : Int) = (if q % 2 = 0 then ((q * 2 ^ j + 2 ^ j : Nat) : Int) else ((q * 2 ^ j - 2 ^ j : Nat) : Int)) := by
  obtain ⟨r, hr1, hr2, hr3⟩ : ∃ r : Nat, r / 2 = q / 2 ∧ r % 2 = 1 - q % 2 ∧ r * 2 ^ j = (if q % 2 = 0 then q * 2 ^ j + 2 ^ j else q * 2 ^ j - 2 ^ j) := by
    by_cases h : q % 2 = 0
    · exact ⟨q + 1, by omega, by omega, by rw [if_pos h, Nat.add_mul, Nat.one_mul]⟩
    · exact ⟨q - 1, by omega, by omega, by rw [if_neg h, Nat.sub_mul, Nat.one_mul]⟩
  have e0 : (if q % 2 = 0 then ((q * 2 ^ j + 2 ^ j : Nat) : Int) else ((q * 2 ^ j - 2 ^ j : Nat) : Int)) = ((r * 2 ^ j : Nat) : Int) := by
    rw [hr3]; split <;> rfl
  have hb : r * 2 ^ j < 2 ^ 62 := by
    rw [hr3]
    have hp := Nat.two_pow_pos j
    generalize q * 2 ^ j = Q at ha ⊢
    generalize 2 ^ j = t at ha hp ⊢
    split <;> omega
  rw [e0]
  show IntKind.i64.wrap ((BitVec.ofInt 64 ((q * 2 ^ j : Nat) : Int) ^^^ BitVec.ofInt 64 ((2 ^ j : Nat) : Int)).toNat : Int) = _
  have e3 : (BitVec.ofInt 64 ((q * 2 ^ j : Nat) : Int) ^^^ BitVec.ofInt 64 ((2 ^ j : Nat) : Int)) = BitVec.ofNat 64 (r * 2 ^ j) := by
    rw [BitVec.ofInt_natCast, BitVec.ofInt_natCast]
    apply BitVec.eq_of_getLsbD_eq
    intro i hi
    rw [BitVec.getLsbD_xor, BitVec.getLsbD_ofNat, BitVec.getLsbD_ofNat, BitVec.getLsbD_ofNat, tb_scaled, tb_scaled, Nat.testBit_two_pow, hr1, hr2]
    simp only [hi, decide_true, Bool.true_and]
    by_cases h : j ≤ i
    · by_cases e : i = j
      · subst e
        rcases Nat.mod_two_eq_zero_or_one q with h2 | h2 <;> simp [h2]
      · simp [h, e, Ne.symm e]
    · have : ¬ j = i := by omega
      simp [h, this]
  rw [e3, BitVec.toNat_ofNat, Nat.mod_eq_of_lt (by omega)]
  exact IntWalk.i64_in _ (by omega)

theorem bit_clear (q j : Nat) (ha : q * 2 ^ j + 2 ^ j < 2 ^ 62) (hj : j ≤ 62) : bits .andNot .i64 ((q * 2 ^ j : Nat) : Int) ((2 ^ j : Nat) : Int) = ((q / 2 * 2 * 2 ^ j : Nat) : Int) := by
  have hb : q / 2 * 2 * 2 ^ j < 2 ^ 62 := by
    have h1 : q / 2 * 2 * 2 ^ j ≤ q * 2 ^ j := Nat.mul_le_mul_right _ (Nat.div_mul_le_self _ _)
    generalize q * 2 ^ j = Q at ha h1
    generalize q / 2 * 2 * 2 ^ j = T at h1 ⊢
    have hp := Nat.two_pow_pos j
    generalize 2 ^ j = t at ha hp
    omega
  show IntKind.i64.wrap ((BitVec.ofInt 64 ((q * 2 ^ j : Nat) : Int) &&& ~~~ BitVec.ofInt 64 ((2 ^ j : Nat) : Int)).toNat : Int) = _
  have e3 : (BitVec.ofInt 64 ((q * 2 ^ j : Nat) : Int) &&& ~~~ BitVec.ofInt 64 ((2 ^ j : Nat) : Int)) = BitVec.ofNat 64 (q / 2 * 2 * 2 ^ j) := by
    rw [BitVec.ofInt_natCast, BitVec.ofInt_natCast]
    apply BitVec.eq_of_getLsbD_eq
    intro i hi
    rw [BitVec.getLsbD_and, BitVec.getLsbD_not, BitVec.getLsbD_ofNat, BitVec.getLsbD_ofNat, BitVec.getLsbD_ofNat, tb_scaled, tb_scaled, Nat.testBit_two_pow]
    simp only [hi, decide_true, Bool.true_and]
    by_cases h : j ≤ i
    · by_cases e : i = j
      · subst e
        simp
      · simp [h, e, Ne.symm e]
    · simp [h]
  generalize q / 2 * 2 * 2 ^ j = T at hb e3 ⊢
  rw [e3, BitVec.toNat_ofNat, Nat.mod_eq_of_lt (by omega)]
  exact IntWalk.i64_in _ (by omega)

open Bud in
/-- The other half of a run, by exclusive or; the run around it. -/
theorem bud_xor {f o : Nat} (h : f % 2 ^ o = 0) (hf : f + 2 ^ o < 2 ^ 62) (ho : o ≤ 62) : bits .xor .i64 (f : Int) ((2 ^ o : Nat) : Int) = (bud f o : Nat) ∧ bits .andNot .i64 (f : Int) ((2 ^ o : Nat) : Int) = (up f o : Nat) := by
  have e := al_form h
  obtain ⟨q, hq⟩ : ∃ q, f / 2 ^ o = q := ⟨_, rfl⟩
  rw [hq] at e
  have hu : up f o = q / 2 * 2 * 2 ^ o := by
    unfold up
    rw [Nat.pow_succ, ← Nat.div_div_eq_div_mul, hq, Nat.mul_comm (2 ^ o) 2, Nat.mul_assoc]
  rw [← e] at hf ⊢
  have hu' : up (q * 2 ^ o) o = q / 2 * 2 * 2 ^ o := by rw [e]; exact hu
  refine ⟨?_, ?_⟩
  · rw [bit_xor q o hf ho]
    unfold bud
    rw [hu']
    have hp := Nat.two_pow_pos o
    by_cases h2 : q % 2 = 0
    · rw [if_pos h2, show q / 2 * 2 = q by omega, if_pos rfl]
    · have hne : ¬ q / 2 * 2 * 2 ^ o = q * 2 ^ o := fun e2 => by
        have := Nat.eq_of_mul_eq_mul_right hp e2
        omega
      rw [if_neg h2, if_neg hne]
  · rw [bit_clear q o hf ho, hu']
end Go.Proofs.Ytmmjkebhcihjlaa
