/- The walk of the statement GaussLaws: it returns true. -/
import Derived.Test.YtdificidpjjhpaaG1a
namespace Go.Proofs.Ytdificidpjjhpaa
open Go.RowKit Flo

theorem bd2 {n m : Int} (A B C : Int) (hn : -A ≤ n ∧ n ≤ A) (hm : -B ≤ m ∧ m ≤ B) (hC : A * B = C) : -C ≤ n * m ∧ n * m ≤ C := by
  have h : (n * m).natAbs ≤ A.toNat * B.toNat := mul_bd (by omega) (by omega)
  have e : ((A.toNat * B.toNat : Nat) : Int) = A * B := by
    rw [Int.natCast_mul, Int.toNat_of_nonneg (by omega), Int.toNat_of_nonneg (by omega)]
  omega

set_option maxHeartbeats 4000000 in
set_option maxRecDepth 100000 in
theorem gaussLaws_walk (a b c d e f : Int) (w : World) : Calls Try.prog 6 #[.int .i64 a, .int .i64 b, .int .i64 c, .int .i64 d, .int .i64 e, .int .i64 f] w fun e w' => e = .returned (.bool true) ∧ Below w.heap.size w w' := by
  have HX := Lib.hid (fun W => tiny_any a b W)
  have HY := Lib.hid (fun W => tiny_any c d W)
  have HZ := Lib.hid (fun W => tiny_any e f W)
  have b1 : -2048 ≤ a % 4096 - 2048 ∧ a % 4096 - 2048 ≤ 2048 := by omega
  have b2 : -2048 ≤ b % 4096 - 2048 ∧ b % 4096 - 2048 ≤ 2048 := by omega
  have b3 : -2048 ≤ c % 4096 - 2048 ∧ c % 4096 - 2048 ≤ 2048 := by omega
  have b4 : -2048 ≤ d % 4096 - 2048 ∧ d % 4096 - 2048 ≤ 2048 := by omega
  have b5 : -2048 ≤ e % 4096 - 2048 ∧ e % 4096 - 2048 ≤ 2048 := by omega
  have b6 : -2048 ≤ f % 4096 - 2048 ∧ f % 4096 - 2048 ≤ 2048 := by omega
  generalize a % 4096 - 2048 = x1 at *
  generalize b % 4096 - 2048 = x2 at *
  generalize c % 4096 - 2048 = y1 at *
  generalize d % 4096 - 2048 = y2 at *
  generalize e % 4096 - 2048 = z1 at *
  generalize f % 4096 - 2048 = z2 at *
  have p11 := bd2 2048 2048 4194304 b1 b3 rfl
  have p22 := bd2 2048 2048 4194304 b2 b4 rfl
  have p12 := bd2 2048 2048 4194304 b1 b4 rfl
  have p21 := bd2 2048 2048 4194304 b2 b3 rfl
  have q11 := bd2 2048 2048 4194304 b1 b5 rfl
  have q22 := bd2 2048 2048 4194304 b2 b6 rfl
  have q12 := bd2 2048 2048 4194304 b1 b6 rfl
  have q21 := bd2 2048 2048 4194304 b2 b5 rfl
  have r11 := bd2 2048 2048 4194304 b3 b5 rfl
  have r22 := bd2 2048 2048 4194304 b4 b6 rfl
  have r12 := bd2 2048 2048 4194304 b3 b6 rfl
  have r21 := bd2 2048 2048 4194304 b4 b5 rfl
  have bP1 : -8388608 ≤ x1 * y1 - x2 * y2 ∧ x1 * y1 - x2 * y2 ≤ 8388608 := by omega
  have bP2 : -8388608 ≤ x1 * y2 + x2 * y1 ∧ x1 * y2 + x2 * y1 ≤ 8388608 := by omega
  have bU1 : -8388608 ≤ x1 * z1 - x2 * z2 ∧ x1 * z1 - x2 * z2 ≤ 8388608 := by omega
  have bU2 : -8388608 ≤ x1 * z2 + x2 * z1 ∧ x1 * z2 + x2 * z1 ≤ 8388608 := by omega
  have bV1 : -8388608 ≤ y1 * z1 - y2 * z2 ∧ y1 * z1 - y2 * z2 ≤ 8388608 := by omega
  have bV2 : -8388608 ≤ y1 * z2 + y2 * z1 ∧ y1 * z2 + y2 * z1 ≤ 8388608 := by omega
  have HXY := Lib.hid (fun W => mul_any _ _ _ _ x1 x2 y1 y2 W (F_is _) (F_is _) (F_is _) (F_is _) (by omega) (by omega) (by omega) (by omega))
  have HYX := Lib.hid (fun W => mul_any _ _ _ _ y1 y2 x1 x2 W (F_is _) (F_is _) (F_is _) (F_is _) (by omega) (by omega) (by omega) (by omega))
  rw [show y1 * x1 - y2 * x2 = x1 * y1 - x2 * y2 from by rw [Int.mul_comm y1, Int.mul_comm y2], show y1 * x2 + y2 * x1 = x1 * y2 + x2 * y1 from by rw [Int.mul_comm y1, Int.mul_comm y2]; omega] at HYX
  have HS := Lib.hid (fun W => add_any _ _ _ _ x1 x2 y1 y2 W (F_is _) (F_is _) (F_is _) (F_is _) (by omega) (by omega) (by omega) (by omega) (by omega) (by omega))
  have HT := Lib.hid (fun W => add_any _ _ _ _ y1 y2 x1 x2 W (F_is _) (F_is _) (F_is _) (F_is _) (by omega) (by omega) (by omega) (by omega) (by omega) (by omega))
  rw [show y1 + x1 = x1 + y1 from by omega, show y2 + x2 = x2 + y2 from by omega] at HT
  have HSZ := Lib.hid (fun W => mul_any _ _ _ _ (x1 + y1) (x2 + y2) z1 z2 W (F_is _) (F_is _) (F_is _) (F_is _) (by omega) (by omega) (by omega) (by omega))
  have HXZ := Lib.hid (fun W => mul_any _ _ _ _ x1 x2 z1 z2 W (F_is _) (F_is _) (F_is _) (F_is _) (by omega) (by omega) (by omega) (by omega))
  have HYZ := Lib.hid (fun W => mul_any _ _ _ _ y1 y2 z1 z2 W (F_is _) (F_is _) (F_is _) (F_is _) (by omega) (by omega) (by omega) (by omega))
  have HB := Lib.hid (fun W => add_any _ _ _ _ (x1 * z1 - x2 * z2) (x1 * z2 + x2 * z1) (y1 * z1 - y2 * z2) (y1 * z2 + y2 * z1) W (F_is _) (F_is _) (F_is _) (F_is _) (by omega) (by omega) (by omega) (by omega) (by omega) (by omega))
  rw [show x1 * z1 - x2 * z2 + (y1 * z1 - y2 * z2) = (x1 + y1) * z1 - (x2 + y2) * z2 from by rw [Int.add_mul, Int.add_mul]; omega, show x1 * z2 + x2 * z1 + (y1 * z2 + y2 * z1) = (x1 + y1) * z2 + (x2 + y2) * z1 from by rw [Int.add_mul, Int.add_mul]; omega] at HB
  have HXYZ := Lib.hid (fun W => mul_any _ _ _ _ (x1 * y1 - x2 * y2) (x1 * y2 + x2 * y1) z1 z2 W (F_is _) (F_is _) (F_is _) (F_is _) (by omega) (by omega) (by omega) (by omega))
  have HZYX := Lib.hid (fun W => mul_any _ _ _ _ x1 x2 (y1 * z1 - y2 * z2) (y1 * z2 + y2 * z1) W (F_is _) (F_is _) (F_is _) (F_is _) (by omega) (by omega) (by omega) (by omega))
  rw [show x1 * (y1 * z1 - y2 * z2) - x2 * (y1 * z2 + y2 * z1) = (x1 * y1 - x2 * y2) * z1 - (x1 * y2 + x2 * y1) * z2 from by grind, show x1 * (y1 * z2 + y2 * z1) + x2 * (y1 * z1 - y2 * z2) = (x1 * y1 - x2 * y2) * z2 + (x1 * y2 + x2 * y1) * z1 from by grind] at HZYX
  have HNX := Lib.hid (fun W => norm_any _ _ x1 x2 W (F_is _) (F_is _) (by omega) (by omega))
  have HNY := Lib.hid (fun W => norm_any _ _ y1 y2 W (F_is _) (F_is _) (by omega) (by omega))
  have HNXY := Lib.hid (fun W => norm_any _ _ (x1 * y1 - x2 * y2) (x1 * y2 + x2 * y1) W (F_is _) (F_is _) (by omega) (by omega))
  rw [show (x1 * y1 - x2 * y2) * (x1 * y1 - x2 * y2) + (x1 * y2 + x2 * y1) * (x1 * y2 + x2 * y1) = (x1 * x1 + x2 * x2) * (y1 * y1 + y2 * y2) from by grind] at HNXY
  have oP1 := ord_self (x1 * y1 - x2 * y2) (by omega)
  have oP2 := ord_self (x1 * y2 + x2 * y1) (by omega)
  have oS1 := ord_self (x1 + y1) (by omega)
  have oS2 := ord_self (x2 + y2) (by omega)
  have bs1 : -4096 ≤ x1 + y1 ∧ x1 + y1 ≤ 4096 := by omega
  have bs2 : -4096 ≤ x2 + y2 ∧ x2 + y2 ≤ 4096 := by omega
  have s11 := bd2 4096 2048 8388608 bs1 b5 rfl
  have s22 := bd2 4096 2048 8388608 bs2 b6 rfl
  have s12 := bd2 4096 2048 8388608 bs1 b6 rfl
  have s21 := bd2 4096 2048 8388608 bs2 b5 rfl
  have oB1 := ord_self ((x1 + y1) * z1 - (x2 + y2) * z2) (by omega)
  have oB2 := ord_self ((x1 + y1) * z2 + (x2 + y2) * z1) (by omega)
  have t11 := bd2 8388608 2048 17179869184 bP1 b5 rfl
  have t22 := bd2 8388608 2048 17179869184 bP2 b6 rfl
  have t12 := bd2 8388608 2048 17179869184 bP1 b6 rfl
  have t21 := bd2 8388608 2048 17179869184 bP2 b5 rfl
  have oT1 := ord_self ((x1 * y1 - x2 * y2) * z1 - (x1 * y2 + x2 * y1) * z2) (by omega)
  have oT2 := ord_self ((x1 * y1 - x2 * y2) * z2 + (x1 * y2 + x2 * y1) * z1) (by omega)
  have nx1 := bd2 2048 2048 4194304 b1 b1 rfl
  have nx2 := bd2 2048 2048 4194304 b2 b2 rfl
  have ny1 := bd2 2048 2048 4194304 b3 b3 rfl
  have ny2 := bd2 2048 2048 4194304 b4 b4 rfl
  have bnx : -8388608 ≤ x1 * x1 + x2 * x2 ∧ x1 * x1 + x2 * x2 ≤ 8388608 := by omega
  have bny : -8388608 ≤ y1 * y1 + y2 * y2 ∧ y1 * y1 + y2 * y2 ≤ 8388608 := by omega
  have bnn := bd2 8388608 8388608 70368744177664 bnx bny rfl
  have bn1 : -70368744177664 ≤ (x1 * x1 + x2 * x2) * (y1 * y1 + y2 * y2) := by omega
  have bn2 : (x1 * x1 + x2 * x2) * (y1 * y1 + y2 * y2) ≤ 70368744177664 := by omega
  clear bnn bnx bny nx1 nx2 ny1 ny2 t11 t22 t12 t21 s11 s22 s12 s21 bs1 bs2 bP1 bP2 bU1 bU2 bV1 bV2 p11 p22 p12 p21 q11 q22 q12 q21 r11 r22 r12 r21 b1 b2 b3 b4 b5 b6
  generalize (x1 + y1) * z1 - (x2 + y2) * z2 = B1 at *
  generalize (x1 + y1) * z2 + (x2 + y2) * z1 = B2 at *
  generalize x1 + y1 = S1 at *
  generalize x2 + y2 = S2 at *
  generalize (x1 * y1 - x2 * y2) * z1 - (x1 * y2 + x2 * y1) * z2 = T1 at *
  generalize (x1 * y1 - x2 * y2) * z2 + (x1 * y2 + x2 * y1) * z1 = T2 at *
  generalize x1 * y1 - x2 * y2 = P1 at *
  generalize x1 * y2 + x2 * y1 = P2 at *
  generalize x1 * z1 - x2 * z2 = U1 at *
  generalize x1 * z2 + x2 * z1 = U2 at *
  generalize y1 * z1 - y2 * z2 = V1 at *
  generalize y1 * z2 + y2 * z1 = V2 at *
  generalize x1 * x1 + x2 * x2 = nx at *
  generalize y1 * y1 + y2 * y2 = ny at *
  go_enter Try.func6, Try.ntmps6
  go_wp2_with fail
  refine (HX.out _).mono ?_; rintro e w' ⟨rfl, rfl⟩
  go_wp2_with fail
  refine (HY.out _).mono ?_; rintro e w' ⟨rfl, rfl⟩
  go_wp2_with fail
  refine (HZ.out _).mono ?_; rintro e w' ⟨rfl, rfl⟩
  go_wp2_with fail
  refine (HXY.out _).mono ?_; rintro e w1 ⟨rfl, hb1⟩
  go_wp2_with fail
  refine (HYX.out _).mono ?_; rintro e w2 ⟨rfl, hb2⟩
  go_wp2_with fail
  refine (HS.out _).mono ?_; rintro e w' ⟨rfl, rfl⟩
  go_wp2_with fail
  refine (HT.out _).mono ?_; rintro e w' ⟨rfl, rfl⟩
  go_wp2_with fail
  refine (HSZ.out _).mono ?_; rintro e w3 ⟨rfl, hb3⟩
  go_wp2_with fail
  refine (HXZ.out _).mono ?_; rintro e w4 ⟨rfl, hb4⟩
  go_wp2_with fail
  refine (HYZ.out _).mono ?_; rintro e w5 ⟨rfl, hb5⟩
  go_wp2_with fail
  refine (HB.out _).mono ?_; rintro e w' ⟨rfl, rfl⟩
  go_wp2_with fail
  refine (HXYZ.out _).mono ?_; rintro e w6 ⟨rfl, hb6⟩
  go_wp2_with fail
  refine (HZYX.out _).mono ?_; rintro e w7 ⟨rfl, hb7⟩
  go_wp2_with fail
  refine (HNX.out _).mono ?_; rintro e w8 ⟨rfl, hb8⟩
  go_wp2_with fail
  refine (HNY.out _).mono ?_; rintro e w9 ⟨rfl, hb9⟩
  go_wp2_with fail
  refine (HNXY.out _).mono ?_; rintro e w10 ⟨rfl, hb10⟩
  go_wp2_with fail
  refine (told_any _).mono ?_; rintro e w11 ⟨rfl, hb11⟩
  go_wp2
  go_ret
  have s1 := hb1.size
  have s2 := hb2.size
  have s3 := hb3.size
  have s4 := hb4.size
  have s5 := hb5.size
  have s6 := hb6.size
  have s7 := hb7.size
  have s8 := hb8.size
  have s9 := hb9.size
  have s10 := hb10.size
  exact ⟨rfl, ((((((((((hb1.trans (hb2.mono (by omega))).trans (hb3.mono (by omega))).trans (hb4.mono (by omega))).trans (hb5.mono (by omega))).trans (hb6.mono (by omega))).trans (hb7.mono (by omega))).trans (hb8.mono (by omega))).trans (hb9.mono (by omega))).trans (hb10.mono (by omega))).trans (hb11.mono (by omega)))⟩

end Go.Proofs.Ytdificidpjjhpaa
