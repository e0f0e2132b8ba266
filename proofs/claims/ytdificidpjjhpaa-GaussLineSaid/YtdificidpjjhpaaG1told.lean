/- The small functions of the statements of layer 1: small, tiny, told. -/
import Derived.Test.YtdificidpjjhpaaGax
import Derived.Test.YtdificidpjjhpaaGay
namespace Go.Proofs.Ytdificidpjjhpaa
open Go.RowKit Flo

/-- A small part out of any number. -/
def sm (a : Int) : Int := a.tmod 16777216 % 16777216 - 8388608

theorem tmod_bd (a : Int) : -16777215 ≤ a.tmod 16777216 ∧ a.tmod 16777216 ≤ 16777215 := by
  have h : (a.tmod 16777216).natAbs < 16777216 := by
    rw [Int.natAbs_tmod]; exact Nat.mod_lt _ (by decide)
  omega

theorem sm_bd (a : Int) : -8388608 ≤ sm a ∧ sm a ≤ 8388607 := by
  unfold sm; omega

set_option maxHeartbeats 1000000 in
theorem lawsmall_any (a b : Int) (w : World) :
    Calls Try.prog 10 #[.int .i64 a, .int .i64 b] w fun e w' => e = .returned (.complex .f64 (F (sm a)) (F (sm b))) ∧ w = w' := by
  have h1 := tmod_bd a
  have h2 := tmod_bd b
  go_enter Try.func10, Try.ntmps10
  go_wp2_with fail
  refine (make_any _ _ _).mono ?_; rintro e w' ⟨rfl, rfl⟩
  go_wp2
  go_ret
  exact ⟨rfl, rfl⟩

theorem mask4095 (x : Int) : bits .and .i64 x 4095 = x % 4096 := mask64 x 12 (by omega)

set_option maxHeartbeats 1000000 in
theorem tiny_any (a b : Int) (w : World) :
    Calls Try.prog 16 #[.int .i64 a, .int .i64 b] w fun e w' => e = .returned (.complex .f64 (F (a % 4096 - 2048)) (F (b % 4096 - 2048))) ∧ w = w' := by
  have h1 := mask4095 a
  have h2 := mask4095 b
  go_enter Try.func16, Try.ntmps16
  go_wp2_with fail
  refine (make_any _ _ _).mono ?_; rintro e w' ⟨rfl, rfl⟩
  go_wp2
  go_ret
  exact ⟨rfl, rfl⟩

theorem bits1 : F 1 = 4607182418800017408 := by decide +kernel
theorem bits2 : F 2 = 4611686018427387904 := by decide +kernel
theorem bits3 : F 3 = 4613937818241073152 := by decide +kernel
theorem bits4 : F 4 = 4616189618054758400 := by decide +kernel
theorem bits5 : F 5 = 4617315517961601024 := by decide +kernel
theorem bitsm1 : F (-1) = 13830554455654793216 := by decide +kernel
theorem bitsm2 : F (-2) = 13835058055282163712 := by decide +kernel
theorem is0 : Is 0 0 := zeroF
theorem is1 : Is 4607182418800017408 1 := .inl bits1.symm
theorem is2 : Is 4611686018427387904 2 := .inl bits2.symm
theorem is3 : Is 4613937818241073152 3 := .inl bits3.symm
theorem is4 : Is 4616189618054758400 4 := .inl bits4.symm
theorem is5 : Is 4617315517961601024 5 := .inl bits5.symm
theorem ism1 : Is 13830554455654793216 (-1) := .inl bitsm1.symm

theorem t1 (w : World) : Calls Try.prog 20 #[.int .i64 1, .int .i64 2] w fun e w' => e = .returned (.tuple #[.complex .f64 4607182418800017408 4611686018427387904, .int .i64 0]) ∧ w = w' := by
  have h := of_any 1 2 w (by decide) (by decide)
  rw [bits1, bits2] at h; exact h

theorem t2 (w : World) : Calls Try.prog 14 #[.complex .f64 4607182418800017408 4611686018427387904, .complex .f64 4613937818241073152 13830554455654793216] w fun e w' => e = .returned (.tuple #[.complex .f64 4617315517961601024 4617315517961601024, .int .i64 0]) ∧ Below w.heap.size w w' := by
  have h := mul_any _ _ _ _ 1 2 3 (-1) w is1 is2 is3 ism1 (by decide) (by decide) (by decide) (by decide)
  rw [show (1 : Int) * 3 - 2 * -1 = 5 from by decide, show (1 : Int) * -1 + 2 * 3 = 5 from by decide, bits5] at h; exact h

theorem t3 (w : World) : Calls Try.prog 18 #[.complex .f64 4617315517961601024 4617315517961601024, .complex .f64 4611686018427387904 0] w fun e w' => e = .returned (.tuple #[.complex .f64 4613937818241073152 4613937818241073152, .complex .f64 13830554455654793216 13830554455654793216, .int .i64 0]) ∧ Below w.heap.size w w' := by
  have h := div_any _ _ _ _ 5 5 2 0 w is5 is5 is2 is0 (by decide) (by decide) (by decide) (by decide) (by decide)
  rw [show rnd (5 * 2 + 5 * 0) (2 * 2 + 0 * 0) = 3 from by decide, show rnd (5 * 2 - 5 * 0) (2 * 2 + 0 * 0) = 3 from by decide, show (5 : Int) - (3 * 2 - 3 * 0) = -1 from by decide, show (5 : Int) - (3 * 0 + 3 * 2) = -1 from by decide, bits3, bitsm1] at h; exact h

theorem t4 (w : World) : Calls Try.prog 15 #[.complex .f64 4613937818241073152 4616189618054758400] w fun e w' => e = .returned (.tuple #[.int .i64 25, .int .i64 0]) ∧ Below w.heap.size w w' := by
  have h := norm_any _ _ 3 4 w is3 is4 (by decide) (by decide)
  rw [show (3 : Int) * 3 + 4 * 4 = 25 from by decide] at h; exact h

theorem t5 (w : World) : Calls Try.prog 13 #[.complex .f64 4607182418800017408 4611686018427387904, .int .i64 1] w fun e w' => e = .returned (.complex .f64 13835058055282163712 4607182418800017408) ∧ w = w' := by
  have h := turn_any _ _ 1 2 1 w is1 is2 (by decide) (by decide)
  rw [show tRe 1 2 1 = -2 from by decide, show tIm 1 2 1 = 1 from by decide, bits1, bitsm2] at h; exact h

theorem t6 (w : World) : Calls Try.prog 12 #[.complex .f64 4607182418800017408 0, .complex .f64 4611686018427387904 0] w fun e w' => e = .returned (.bool true) ∧ Below w.heap.size w w' := by
  have h := less_any _ _ _ _ 1 0 2 0 w is1 is0 is2 is0 (by decide) (by decide) (by decide) (by decide)
  rw [show lessB 1 0 2 0 = true from by decide] at h; exact h

theorem t7 (w : World) : Calls Try.prog 12 #[.complex .f64 4611686018427387904 0, .complex .f64 4607182418800017408 0] w fun e w' => e = .returned (.bool false) ∧ Below w.heap.size w w' := by
  have h := less_any _ _ _ _ 2 0 1 0 w is2 is0 is1 is0 (by decide) (by decide) (by decide) (by decide)
  rw [show lessB 2 0 1 0 = false from by decide] at h; exact h

set_option maxHeartbeats 2000000 in
set_option maxRecDepth 100000 in
theorem told_any (w : World) : Calls Try.prog 9 #[] w fun e w' => e = .returned (.bool true) ∧ Below w.heap.size w w' := by
  have o1 := ord_eq is1 is1 (by decide) (by decide) rfl
  have o2 := ord_eq is2 is2 (by decide) (by decide) rfl
  have o3 := ord_eq is3 is3 (by decide) (by decide) rfl
  have o5 := ord_eq is5 is5 (by decide) (by decide) rfl
  have om1 := ord_eq ism1 ism1 (by decide) (by decide) rfl
  have om2 : FloatKind.f64.format.order 13835058055282163712 13835058055282163712 = some .eq := by decide +kernel
  go_enter Try.func9, Try.ntmps9
  go_wp2_with fail
  refine (t1 _).mono ?_; rintro e w' ⟨rfl, rfl⟩
  go_wp2_with fail
  refine (t2 _).mono ?_; rintro e w1 ⟨rfl, hb1⟩
  go_wp2_with fail
  refine (t3 _).mono ?_; rintro e w2 ⟨rfl, hb2⟩
  go_wp2_with fail
  refine (t4 _).mono ?_; rintro e w3 ⟨rfl, hb3⟩
  go_wp2_with fail
  refine (of_far _).mono ?_; rintro e w' ⟨rfl, rfl⟩
  go_wp2_with fail
  refine (t5 _).mono ?_; rintro e w' ⟨rfl, rfl⟩
  go_wp2_with fail
  refine (t6 _).mono ?_; rintro e w4 ⟨rfl, hb4⟩
  go_wp2_with fail
  refine (t7 _).mono ?_; rintro e w5 ⟨rfl, hb5⟩
  go_wp2
  go_ret
  have s1 := hb1.size
  have s2 := hb2.size
  have s3 := hb3.size
  have s4 := hb4.size
  exact ⟨rfl, (((hb1.trans (hb2.mono (by omega))).trans (hb3.mono (by omega))).trans (hb4.mono (by omega))).trans (hb5.mono (by omega))⟩

end Go.Proofs.Ytdificidpjjhpaa
