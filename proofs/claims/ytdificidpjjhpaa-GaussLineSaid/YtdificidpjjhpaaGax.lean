/- What the functions Div and Of of package gauss do, and Make and Clean of the reference, called with whole numbers of limited size: contracts of each. -/
import Derived.Test.YtdificidpjjhpaaGaw
namespace Go.Proofs.Ytdificidpjjhpaa
open Go.RowKit Flo

theorem sq_abs (u : Int) : (u.natAbs : Int) ≤ u * u := by
  have h : u * u = (u.natAbs : Int) * (u.natAbs : Int) := by rw [← Int.natCast_mul, Int.natAbs_mul_self]
  rw [h]
  rcases Nat.eq_zero_or_pos u.natAbs with h0 | h0
  · rw [h0]; decide
  · have := Nat.le_mul_of_pos_right u.natAbs h0
    exact_mod_cast this

/-- A part of a product is no further than so many times the norm. -/
theorem part_le (x y u v : Int) (A : Nat) (hx : x.natAbs ≤ A) (hy : y.natAbs ≤ A) : (x * u + y * v).natAbs ≤ A * (u * u + v * v).natAbs := by
  have h1 := sq_abs u
  have h2 := sq_abs v
  have a1 := mul_bd hx (Nat.le_refl u.natAbs)
  have a2 := mul_bd hy (Nat.le_refl v.natAbs)
  have h3 : u.natAbs + v.natAbs ≤ (u * u + v * v).natAbs := by omega
  have h4 : A * (u.natAbs + v.natAbs) ≤ A * (u * u + v * v).natAbs := Nat.mul_le_mul_left _ h3
  rw [Nat.mul_add] at h4
  omega

theorem rnd_le (p n : Int) (A : Nat) (h1 : 1 ≤ n) (hp : p.natAbs ≤ A * n.natAbs) : (rnd p n).natAbs ≤ A := by
  obtain ⟨N, rfl⟩ := Int.eq_ofNat_of_zero_le (show 0 ≤ n by omega)
  rw [Int.natAbs_natCast] at hp
  have hp' : p ≤ (A : Int) * N ∧ -((A : Int) * N) ≤ p := by
    have e : ((A * N : Nat) : Int) = (A : Int) * N := by simp
    omega
  have hlo : -(A : Int) ≤ rnd p N := by
    unfold rnd
    refine (Int.le_ediv_iff_mul_le (by omega)).2 ?_
    have e : -(A : Int) * (2 * N) = -(2 * (A * N)) := by rw [Int.neg_mul, Int.mul_left_comm]
    omega
  have hhi : rnd p N < (A : Int) + 1 := by
    unfold rnd
    refine Int.ediv_lt_of_lt_mul (by omega) ?_
    have e : ((A : Int) + 1) * (2 * N) = 2 * (A * N) + 2 * N := by rw [Int.add_mul, Int.mul_left_comm, Int.one_mul]
    omega
  omega

set_option maxHeartbeats 2000000 in
theorem div_any (a b c d : Nat) (x y u v : Int) (w : World) (ha : Is a x) (hb : Is b y) (hc : Is c u) (hd : Is d v) (hx : x.natAbs ≤ 16777216) (hy : y.natAbs ≤ 16777216) (hu : u.natAbs ≤ 16777216) (hv : v.natAbs ≤ 16777216) (h0 : 1 ≤ u * u + v * v) :
    Calls Try.prog 18 #[.complex .f64 a b, .complex .f64 c d] w fun e w' =>
      e = .returned (.tuple #[.complex .f64 (F (rnd (x * u + y * v) (u * u + v * v))) (F (rnd (y * u - x * v) (u * u + v * v))),
        .complex .f64 (F (x - (rnd (x * u + y * v) (u * u + v * v) * u - rnd (y * u - x * v) (u * u + v * v) * v))) (F (y - (rnd (x * u + y * v) (u * u + v * v) * v + rnd (y * u - x * v) (u * u + v * v) * u))), .int .i64 0]) ∧ Below w.heap.size w w' := by
  have hneg := neg_is hd (by omega)
  obtain ⟨pr, pi, hmul, hpr, hpi, bpr, bpi⟩ := cmul_small (A := 16777216) (by omega) ha hb hc hneg hx hy hu (by rw [Int.natAbs_neg]; exact hv)
  have er : x * u - y * -v = x * u + y * v := by rw [Int.mul_neg]; omega
  have ei : x * -v + y * u = y * u - x * v := by rw [Int.mul_neg]; omega
  rw [er] at hpr bpr
  rw [ei] at hpi bpi
  have q1 := rnd_le _ _ 16777216 h0 (part_le x y u v 16777216 hx hy)
  have q2 := rnd_le (y * u - x * v) _ 16777216 h0 (by
    have := part_le y (-x) u v 16777216 hy (by rw [Int.natAbs_neg]; exact hx)
    rw [show y * u + -x * v = y * u - x * v from by rw [Int.neg_mul]; omega] at this
    exact this)
  have hnn : u * u + v * v ≤ 2251799813685248 := by
    have h1 := mul_bd hu hu
    have h2 := mul_bd hv hv
    omega
  have HS := Lib.hid (fun T => small_two a b c d x y u v T w ha hb hc hd hx hy hu hv)
  have HN := Lib.hid (fun W => norm_any c d u v W hc hd hu hv)
  have HC := Lib.hid (fun W => conj_any c d W)
  have HR1 := Lib.hid (fun W => nearest_any (x * u + y * v) (u * u + v * v) W bpr h0 hnn)
  have HR2 := Lib.hid (fun W => nearest_any (y * u - x * v) (u * u + v * v) W bpi h0 hnn)
  generalize hq1 : rnd (x * u + y * v) (u * u + v * v) = r1 at HR1 q1 ⊢
  generalize hq2 : rnd (y * u - x * v) (u * u + v * v) = r2 at HR2 q2 ⊢
  clear hq1 hq2
  obtain ⟨sr, si, hmul2, hsr, hsi, bsr, bsi⟩ := cmul_small (A := 16777216) (by omega) (F_is r1) (F_is r2) hc hd q1 q2 hu hv
  obtain ⟨tr, ti, hsub, htr, hti⟩ := cdiff_is rfl ha hb hsr hsi (by omega) (by omega) (by omega) (by omega) (by omega) (by omega)
  have HP1 := Lib.hid (fun W => plain_any (F r1) (F r2) r1 r2 W (F_is _) (F_is _) (by omega) (by omega))
  have HP2 := Lib.hid (fun W => plain_any tr ti _ _ W htr hti (by omega) (by omega))
  have m1 := run_mul hmul
  have m2 := run_mul hmul2
  have m3 := run_sub hsub
  have k1 := conv_fi hpr (by omega)
  have k2 := conv_fi hpi (by omega)
  have k3 := fun w => conv_if r1 w
  have k4 := fun w => conv_if r2 w
  have hz : (u * u + v * v == 0) = false := by simp; omega
  clear hmul hpr hpi bpr bpi er ei hmul2 hsr hsi bsr bsi hsub htr hti q1 q2 ha hb hc hd hx hy hu hv hnn hneg h0
  generalize x - (r1 * u - r2 * v) = s1 at *
  generalize y - (r1 * v + r2 * u) = s2 at *
  generalize u * u + v * v = nn at *
  generalize x * u + y * v = p1 at *
  generalize y * u - x * v = p2 at *
  go_enter Try.func18, Try.ntmps18
  go_wp2_with fail
  refine (HS.out _).mono ?_; rintro e w' ⟨rfl, rfl⟩
  go_wp2_with fail
  refine (HN.out _).mono ?_; rintro e w1 ⟨rfl, hb1⟩
  go_wp2_with fail
  refine (HC.out _).mono ?_; rintro e w2 ⟨rfl, rfl⟩
  go_wp2_with fail
  refine (HR1.out _).mono ?_; rintro e w2 ⟨rfl, rfl⟩
  go_wp2_with fail
  refine (HR2.out _).mono ?_; rintro e w2 ⟨rfl, rfl⟩
  go_wp2_with fail
  refine (HP1.out _).mono ?_; rintro e w2 ⟨rfl, rfl⟩
  go_wp2_with fail
  refine (HP2.out _).mono ?_; rintro e w2 ⟨rfl, rfl⟩
  go_wp2
  go_ret3
  exact ⟨rfl, ((Below.refl _ _).alloc (Nat.le_refl _) _).trans (hb1.mono (by simp))⟩

end Go.Proofs.Ytdificidpjjhpaa
