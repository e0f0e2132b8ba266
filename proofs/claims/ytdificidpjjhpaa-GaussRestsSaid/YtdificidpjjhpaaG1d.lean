/- The walk of the statement GaussRests: it returns true. -/
import Derived.Test.YtdificidpjjhpaaG1a
namespace Go.Proofs.Ytdificidpjjhpaa
open Go.RowKit Flo

set_option maxHeartbeats 1000000 in
theorem div_zero (a b : Nat) (x y : Int) (w : World) (ha : Is a x) (hb : Is b y) (hx : x.natAbs ≤ 16777216) (hy : y.natAbs ≤ 16777216) :
    Calls Try.prog 18 #[.complex .f64 a b, .complex .f64 0 0] w fun e w' =>
      e = .returned (.tuple #[.complex .f64 0 0, .complex .f64 0 0, .int .i64 1]) ∧ Below w.heap.size w w' := by
  have HS := Lib.hid (fun T => small_two a b 0 0 x y 0 0 T w ha hb is0 is0 hx hy (by decide) (by decide))
  have HN := Lib.hid (fun W => norm_any 0 0 0 0 W is0 is0 (by decide) (by decide))
  rw [show (0 : Int) * 0 + 0 * 0 = 0 from rfl] at HN
  clear ha hb hx hy
  go_enter Try.func18, Try.ntmps18
  go_wp2_with fail
  refine (HS.out _).mono ?_; rintro e w' ⟨rfl, rfl⟩
  go_wp2_with fail
  refine (HN.out _).mono ?_; rintro e w1 ⟨rfl, hb1⟩
  go_wp2
  go_ret3
  exact ⟨rfl, ((Below.refl _ _).alloc (Nat.le_refl _) _).trans (hb1.mono (by simp))⟩

theorem rnd_spec (p n : Int) (h : 1 ≤ n) : -n ≤ 2 * (p - rnd p n * n) ∧ 2 * (p - rnd p n * n) ≤ n := by
  have h1 := Int.ediv_mul_le (2 * p + n) (b := 2 * n) (by omega)
  have h2 := Int.lt_ediv_add_one_mul_self (2 * p + n) (b := 2 * n) (by omega)
  unfold rnd
  generalize (2 * p + n) / (2 * n) = q at *
  have e1 : q * (2 * n) = 2 * (q * n) := by rw [Int.mul_left_comm]
  have e2 : (q + 1) * (2 * n) = 2 * (q * n) + 2 * n := by rw [Int.add_mul, e1]; omega
  omega

theorem sq_le (a n : Int) (h1 : -n ≤ 2 * a) (h2 : 2 * a ≤ n) : 4 * (a * a) ≤ n * n := by
  have h : (2 * a).natAbs ≤ n.natAbs := by omega
  have h3 := Nat.mul_le_mul h h
  have h4 : (((2 * a).natAbs * (2 * a).natAbs : Nat) : Int) = 2 * a * (2 * a) := by rw [Int.natAbs_mul_self]
  have h5 : ((n.natAbs * n.natAbs : Nat) : Int) = n * n := by rw [Int.natAbs_mul_self]
  have e : 2 * a * (2 * a) = 4 * (a * a) := by grind
  omega

/-- The rest's norm is at most half the divisor's. -/
theorem rest_norm (x y u v : Int) (h : 1 ≤ u * u + v * v) :
    2 * ((x - (rnd (x * u + y * v) (u * u + v * v) * u - rnd (y * u - x * v) (u * u + v * v) * v)) * (x - (rnd (x * u + y * v) (u * u + v * v) * u - rnd (y * u - x * v) (u * u + v * v) * v)) +
      (y - (rnd (x * u + y * v) (u * u + v * v) * v + rnd (y * u - x * v) (u * u + v * v) * u)) * (y - (rnd (x * u + y * v) (u * u + v * v) * v + rnd (y * u - x * v) (u * u + v * v) * u))) ≤ u * u + v * v := by
  obtain ⟨a1, a2⟩ := rnd_spec (x * u + y * v) _ h
  obtain ⟨b1, b2⟩ := rnd_spec (y * u - x * v) _ h
  have c1 := sq_le _ _ a1 a2
  have c2 := sq_le _ _ b1 b2
  generalize rnd (x * u + y * v) (u * u + v * v) = q1 at *
  generalize rnd (y * u - x * v) (u * u + v * v) = q2 at *
  generalize hr1 : x - (q1 * u - q2 * v) = r1 at *
  generalize hr2 : y - (q1 * v + q2 * u) = r2 at *
  have e1 : x * u + y * v - q1 * (u * u + v * v) = r1 * u + r2 * v := by subst hr1 hr2; grind
  have e2 : y * u - x * v - q2 * (u * u + v * v) = r2 * u - r1 * v := by subst hr1 hr2; grind
  rw [e1] at c1
  rw [e2] at c2
  have e3 : (r1 * r1 + r2 * r2) * (u * u + v * v) = (r1 * u + r2 * v) * (r1 * u + r2 * v) + (r2 * u - r1 * v) * (r2 * u - r1 * v) := by grind
  generalize u * u + v * v = N at *
  generalize r1 * r1 + r2 * r2 = R at *
  have h2 : (2 * R) * N ≤ N * N := by
    have e4 : (2 * R) * N = 2 * (R * N) := by rw [Int.mul_assoc]
    omega
  exact Int.le_of_mul_le_mul_right h2 (by omega)

theorem abs_of_sq (r s N : Int) (A : Int) (hA : 0 ≤ A) (h : 2 * (r * r + s * s) ≤ N) (hN : N ≤ A) : (-A ≤ r ∧ r ≤ A) ∧ -A ≤ s ∧ s ≤ A := by
  have h1 := sq_abs r
  have h2 := sq_abs s
  omega

set_option maxHeartbeats 4000000 in
set_option maxRecDepth 100000 in
theorem gaussRests_walk (a b c d : Int) (w : World) : Calls Try.prog 7 #[.int .i64 a, .int .i64 b, .int .i64 c, .int .i64 d] w fun e w' => e = .returned (.bool true) ∧ Below w.heap.size w w' := by
  have ba := sm_bd a
  have bb := sm_bd b
  have bc : -2048 ≤ c % 4096 - 2048 ∧ c % 4096 - 2048 ≤ 2048 := by omega
  have bd : -2048 ≤ d % 4096 - 2048 ∧ d % 4096 - 2048 ≤ 2048 := by omega
  have HX := Lib.hid (fun W => lawsmall_any a b W)
  have HY := Lib.hid (fun W => tiny_any c d W)
  generalize sm a = x at *
  generalize sm b = y at *
  generalize c % 4096 - 2048 = u at *
  generalize d % 4096 - 2048 = v at *
  by_cases h0 : u = 0 ∧ v = 0
  · obtain ⟨rfl, rfl⟩ := h0
    rw [F_zero] at HY
    have HD := Lib.hid (fun W => div_zero (F x) (F y) x y W (F_is x) (F_is y) (by omega) (by omega))
    have o0 : FloatKind.f64.format.order 0 0 = some .eq := ord_eq is0 is0 (by decide) (by decide) rfl
    clear ba bb bc bd
    go_enter Try.func7, Try.ntmps7
    go_wp2_with fail
    refine (HX.out _).mono ?_; rintro e w' ⟨rfl, rfl⟩
    go_wp2_with fail
    refine (HY.out _).mono ?_; rintro e w' ⟨rfl, rfl⟩
    go_wp2_with fail
    refine (HD.out _).mono ?_; rintro e w1 ⟨rfl, hb1⟩
    go_wp2_with fail
    refine (told_any _).mono ?_; rintro e w2 ⟨rfl, hb2⟩
    go_wp2
    go_ret
    have s1 := hb1.size
    exact ⟨rfl, hb1.trans (hb2.mono (by omega))⟩
  · have n1 := mul_bd (show u.natAbs ≤ 2048 by omega) (show u.natAbs ≤ 2048 by omega)
    have n2 := mul_bd (show v.natAbs ≤ 2048 by omega) (show v.natAbs ≤ 2048 by omega)
    have s1 := sq_abs u
    have s2 := sq_abs v
    have hN1 : 1 ≤ u * u + v * v := by omega
    have hN2 : u * u + v * v ≤ 8388608 := by omega
    clear n1 n2 s1 s2
    have hR := rest_norm x y u v hN1
    have bR := abs_of_sq _ _ _ 8388608 (by omega) hR hN2
    have q1 := rnd_le _ _ 16777216 hN1 (part_le x y u v 16777216 (by omega) (by omega))
    have q2 := rnd_le (y * u - x * v) _ 16777216 hN1 (by
      have := part_le y (-x) u v 16777216 (by omega) (by omega)
      rw [show y * u + -x * v = y * u - x * v from by rw [Int.neg_mul]; omega] at this
      exact this)
    have HD := Lib.hid (fun W => div_any _ _ _ _ x y u v W (F_is x) (F_is y) (F_is u) (F_is v) (by omega) (by omega) (by omega) (by omega) hN1)
    have HNy := Lib.hid (fun W => norm_any _ _ u v W (F_is u) (F_is v) (by omega) (by omega))
    generalize rnd (x * u + y * v) (u * u + v * v) = r1 at *
    generalize rnd (y * u - x * v) (u * u + v * v) = r2 at *
    have HM := Lib.hid (fun W => mul_any _ _ _ _ r1 r2 u v W (F_is r1) (F_is r2) (F_is u) (F_is v) q1 q2 (by omega) (by omega))
    have bq1 : -16777216 ≤ r1 ∧ r1 ≤ 16777216 := by omega
    have bq2 : -16777216 ≤ r2 ∧ r2 ≤ 16777216 := by omega
    clear q1 q2
    have m1 := mul_bd (show r1.natAbs ≤ 16777216 by omega) (show u.natAbs ≤ 2048 by omega)
    have m2 := mul_bd (show r2.natAbs ≤ 16777216 by omega) (show v.natAbs ≤ 2048 by omega)
    have m3 := mul_bd (show r1.natAbs ≤ 16777216 by omega) (show v.natAbs ≤ 2048 by omega)
    have m4 := mul_bd (show r2.natAbs ≤ 16777216 by omega) (show u.natAbs ≤ 2048 by omega)
    have bp1 : -137438953472 ≤ r1 * u - r2 * v ∧ r1 * u - r2 * v ≤ 137438953472 := by omega
    have bp2 : -137438953472 ≤ r1 * v + r2 * u ∧ r1 * v + r2 * u ≤ 137438953472 := by omega
    clear m1 m2 m3 m4
    generalize r1 * u - r2 * v = p1 at *
    generalize r1 * v + r2 * u = p2 at *
    have HA := Lib.hid (fun W => add_any _ _ _ _ p1 p2 (x - p1) (y - p2) W (F_is _) (F_is _) (F_is _) (F_is _) (by omega) (by omega) (by omega) (by omega) (by omega) (by omega))
    rw [show p1 + (x - p1) = x from by omega, show p2 + (y - p2) = y from by omega] at HA
    have HNr := Lib.hid (fun W => norm_any _ _ (x - p1) (y - p2) W (F_is _) (F_is _) (by omega) (by omega))
    have ox := ord_self x (by omega)
    have oy := ord_self y (by omega)
    have hnz : ((FloatKind.f64.format.order (F u) 0 == some .eq) && (FloatKind.f64.format.order (F v) 0 == some .eq)) = false := by
      by_cases hu : u = 0
      · obtain ⟨cc, h1, h2⟩ := zero_orders (F_is v) (by omega) (show v ≠ 0 by intro h; exact h0 ⟨hu, h⟩)
        rw [h1]; rcases h2 with rfl | rfl <;> simp
      · obtain ⟨cc, h1, h2⟩ := zero_orders (F_is u) (by omega) hu
        rw [h1]; rcases h2 with rfl | rfl <;> simp
    have sx := sq_abs (x - p1)
    have sy := sq_abs (y - p2)
    have hNr0 : 0 ≤ (x - p1) * (x - p1) + (y - p2) * (y - p2) := by omega
    clear h0 bR bp1 bp2 bq1 bq2 ba bb bc bd hN1 sx sy
    generalize (x - p1) * (x - p1) + (y - p2) * (y - p2) = R at *
    generalize u * u + v * v = N at *
    generalize x - p1 = t1 at *
    generalize y - p2 = t2 at *
    go_enter Try.func7, Try.ntmps7
    go_wp2_with fail
    refine (HX.out _).mono ?_; rintro e w' ⟨rfl, rfl⟩
    go_wp2_with fail
    refine (HY.out _).mono ?_; rintro e w' ⟨rfl, rfl⟩
    go_wp2_with fail
    refine (HD.out _).mono ?_; rintro e w1 ⟨rfl, hb1⟩
    go_wp2_with fail
    refine (HM.out _).mono ?_; rintro e w2 ⟨rfl, hb2⟩
    go_wp2_with fail
    refine (HA.out _).mono ?_; rintro e w' ⟨rfl, rfl⟩
    go_wp2_with fail
    refine (HNr.out _).mono ?_; rintro e w3 ⟨rfl, hb3⟩
    go_wp2_with fail
    refine (HNy.out _).mono ?_; rintro e w4 ⟨rfl, hb4⟩
    go_wp2_with fail
    refine (HD.out _).mono ?_; rintro e w5 ⟨rfl, hb5⟩
    go_wp2_with fail
    refine (told_any _).mono ?_; rintro e w6 ⟨rfl, hb6⟩
    go_wp2
    go_ret
    have s1 := hb1.size
    have s2 := hb2.size
    have s3 := hb3.size
    have s4 := hb4.size
    have s5 := hb5.size
    exact ⟨rfl, ((((hb1.trans (hb2.mono (by omega))).trans (hb3.mono (by omega))).trans (hb4.mono (by omega))).trans (hb5.mono (by omega))).trans (hb6.mono (by omega))⟩

end Go.Proofs.Ytdificidpjjhpaa
