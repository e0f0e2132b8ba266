/- The walks of the statements GaussErrors and GaussTurns: each returns true. -/
import Derived.Test.YtdificidpjjhpaaG1told
namespace Go.Proofs.Ytdificidpjjhpaa
open Go.RowKit Flo

theorem gaussErrors_walk (w : World) : Calls Try.prog 3 #[] w fun e w' => e = .returned (.bool true) ∧ Below w.heap.size w w' := by
  go_enter Try.func3, Try.ntmps3
  go_wp2_with fail
  refine (told_any _).mono ?_; rintro e w1 ⟨rfl, hb1⟩
  go_wp2
  go_ret
  exact ⟨rfl, hb1⟩

theorem tRe_one (n m : Int) : tRe n m 1 = -m := by unfold tRe; simp
theorem tIm_one (n m : Int) : tIm n m 1 = n := by unfold tIm; simp
theorem tRe_two (n m : Int) : tRe n m 2 = -n := by unfold tRe; simp
theorem tIm_two (n m : Int) : tIm n m 2 = -m := by unfold tIm; simp
theorem t_norm (n m k : Int) : tRe n m k * tRe n m k + tIm n m k * tIm n m k = n * n + m * m := by
  unfold tRe tIm
  by_cases h0 : k % 4 = 0
  · simp [h0]
  by_cases h1 : k % 4 = 1
  · simp [h1, Int.neg_mul, Int.mul_neg]; omega
  by_cases h2 : k % 4 = 2
  · simp [h2, Int.neg_mul, Int.mul_neg]
  · simp [h0, h1, h2, Int.neg_mul, Int.mul_neg]; omega
theorem t_abs (n m k : Int) (A : Nat) (hn : n.natAbs ≤ A) (hm : m.natAbs ≤ A) : (tRe n m k).natAbs ≤ A ∧ (tIm n m k).natAbs ≤ A := by
  unfold tRe tIm
  by_cases h0 : k % 4 = 0
  · simp [h0, hn, hm]
  by_cases h1 : k % 4 = 1
  · simp [h1, hn, hm]
  by_cases h2 : k % 4 = 2
  · simp [h2, hn, hm]
  · simp [h0, h1, h2, hn, hm]
theorem t_back (n m k : Int) : tRe (tRe n m k) (tIm n m k) (-(k.tmod 4)) = n ∧ tIm (tRe n m k) (tIm n m k) (-(k.tmod 4)) = m := by
  have e : (-(k.tmod 4)) % 4 = (-k) % 4 := by
    have h := Int.tdiv_mul_add_tmod k 4
    omega
  unfold tRe tIm
  rw [e]
  have hr : k % 4 = 0 ∨ k % 4 = 1 ∨ k % 4 = 2 ∨ k % 4 = 3 := by omega
  rcases hr with hr | hr | hr | hr
  · have : (-k) % 4 = 0 := by omega
    simp [hr, this]
  · have : (-k) % 4 = 3 := by omega
    simp [hr, this]
  · have : (-k) % 4 = 2 := by omega
    simp [hr, this]
  · have : (-k) % 4 = 1 := by omega
    simp [hr, this]

theorem ord_self (n : Int) (hn : n.natAbs ≤ 2 ^ 53) : FloatKind.f64.format.order (F n) (F n) = some .eq := ord_eq (F_is n) (F_is n) hn hn rfl

set_option maxHeartbeats 2000000 in
set_option maxRecDepth 100000 in
theorem gaussTurns_walk (a b k : Int) (w : World) : Calls Try.prog 5 #[.int .i64 a, .int .i64 b, .int .i64 k] w fun e w' => e = .returned (.bool true) ∧ Below w.heap.size w w' := by
  have ba := sm_bd a
  have bb := sm_bd b
  have HX := Lib.hid (fun W => lawsmall_any a b W)
  generalize sm a = n at *
  generalize sm b = m at *
  have hn : n.natAbs ≤ 8388608 := by omega
  have hm : m.natAbs ≤ 8388608 := by omega
  have bt := t_abs n m k _ hn hm
  have HT1 := Lib.hid (fun W => turn_any _ _ n m 1 W (F_is n) (F_is m) (by omega) (by omega))
  have HM := Lib.hid (fun W => mul_any (F n) (F m) 0 4607182418800017408 n m 0 1 W (F_is n) (F_is m) is0 is1 (by omega) (by omega) (by decide) (by decide))
  rw [tRe_one, tIm_one] at HT1
  rw [show n * 0 - m * 1 = -m from by omega, show n * 1 + m * 0 = n from by omega] at HM
  have HN := Lib.hid (fun W => norm_any (F n) (F m) n m W (F_is n) (F_is m) (by omega) (by omega))
  have HTk := Lib.hid (fun W => turn_any _ _ n m k W (F_is n) (F_is m) (by omega) (by omega))
  have HNk := Lib.hid (fun W => norm_any _ _ _ _ W (F_is (tRe n m k)) (F_is (tIm n m k)) (by omega) (by omega))
  rw [t_norm] at HNk
  have HT11 := Lib.hid (fun W => turn_any _ _ (-m) n 1 W (F_is _) (F_is n) (by omega) (by omega))
  rw [tRe_one, tIm_one] at HT11
  have HT2 := Lib.hid (fun W => turn_any _ _ (-n) (-m) 2 W (F_is _) (F_is _) (by omega) (by omega))
  rw [tRe_two, tIm_two, Int.neg_neg, Int.neg_neg] at HT2
  have HTb := Lib.hid (fun W => turn_any _ _ (tRe n m k) (tIm n m k) (-(k.tmod 4)) W (F_is _) (F_is _) (by omega) (by omega))
  rw [(t_back n m k).1, (t_back n m k).2] at HTb
  have o1 := ord_self n (by omega)
  have o2 := ord_self m (by omega)
  have o3 := ord_self (-m) (by omega)
  clear bt ba bb hn hm
  have hk4 : -3 ≤ k.tmod 4 ∧ k.tmod 4 ≤ 3 := by
    have h : (k.tmod 4).natAbs < 4 := by rw [Int.natAbs_tmod]; exact Nat.mod_lt _ (by decide)
    omega
  generalize n * n + m * m = P at *
  generalize tRe n m k = p at *
  generalize tIm n m k = q at *
  go_enter Try.func5, Try.ntmps5
  go_wp2_with fail
  refine (HX.out _).mono ?_; rintro e w' ⟨rfl, rfl⟩
  go_wp2_with fail
  refine (HT1.out _).mono ?_; rintro e w' ⟨rfl, rfl⟩
  go_wp2_with fail
  refine (HM.out _).mono ?_; rintro e w1 ⟨rfl, hb1⟩
  go_wp2_with fail
  refine (HN.out _).mono ?_; rintro e w2 ⟨rfl, hb2⟩
  go_wp2_with fail
  refine (HTk.out _).mono ?_; rintro e w' ⟨rfl, rfl⟩
  go_wp2_with fail
  refine (HNk.out _).mono ?_; rintro e w3 ⟨rfl, hb3⟩
  go_wp2_with fail
  refine (told_any _).mono ?_; rintro e w4 ⟨rfl, hb4⟩
  go_wp2_with fail
  refine (HT11.out _).mono ?_; rintro e w' ⟨rfl, rfl⟩
  go_wp2_with fail
  refine (HT2.out _).mono ?_; rintro e w' ⟨rfl, rfl⟩
  go_wp2_with fail
  refine (HTk.out _).mono ?_; rintro e w' ⟨rfl, rfl⟩
  go_wp2_with fail
  refine (HTb.out _).mono ?_; rintro e w' ⟨rfl, rfl⟩
  go_wp2
  go_ret
  have s1 := hb1.size
  have s2 := hb2.size
  have s3 := hb3.size
  exact ⟨rfl, ((hb1.trans (hb2.mono (by omega))).trans (hb3.mono (by omega))).trans (hb4.mono (by omega))⟩

end Go.Proofs.Ytdificidpjjhpaa
