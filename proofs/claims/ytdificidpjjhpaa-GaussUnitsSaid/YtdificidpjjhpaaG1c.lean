/- The walk of the statement GaussUnits: it returns true. -/
import Derived.Test.YtdificidpjjhpaaG1a
namespace Go.Proofs.Ytdificidpjjhpaa
open Go.RowKit Flo

set_option maxHeartbeats 4000000 in
set_option maxRecDepth 100000 in
theorem gaussUnits_walk (a b k : Int) (w : World) : Calls Try.prog 8 #[.int .i64 a, .int .i64 b, .int .i64 k] w fun e w' => e = .returned (.bool true) ∧ Below w.heap.size w w' := by
  have ba := sm_bd a
  have bb := sm_bd b
  have HX := Lib.hid (fun W => lawsmall_any a b W)
  generalize sm a = n at *
  generalize sm b = m at *
  have hn : n.natAbs ≤ 8388608 := by omega
  have hm : m.natAbs ≤ 8388608 := by omega
  have bt := t_abs n m k _ hn hm
  have nn1 := mul_bd hn hn
  have nn2 := mul_bd hm hm
  have HN1 := Lib.hid (fun W => mul_any (F n) (F m) 13830554455654793216 0 n m (-1) 0 W (F_is n) (F_is m) ism1 is0 (by omega) (by omega) (by decide) (by decide))
  rw [show n * -1 - m * 0 = -n from by omega, show n * 0 + m * -1 = -m from by omega] at HN1
  have HA := Lib.hid (fun W => add_any (F n) (F m) (F (-n)) (F (-m)) n m (-n) (-m) W (F_is n) (F_is m) (F_is _) (F_is _) (by omega) (by omega) (by omega) (by omega) (by omega) (by omega))
  rw [show n + -n = 0 from by omega, show m + -m = 0 from by omega, F_zero] at HA
  have HMk := Lib.hid (fun W => make_any n (-m) W)
  have HC := Lib.hid (fun W => mul_any (F n) (F m) (F n) (F (-m)) n m n (-m) W (F_is n) (F_is m) (F_is _) (F_is _) (by omega) (by omega) (by omega) (by omega))
  rw [show n * n - m * -m = n * n + m * m from by rw [Int.mul_neg]; omega, show n * -m + m * n = 0 from by rw [Int.mul_neg, Int.mul_comm m n]; omega, F_zero] at HC
  have HN := Lib.hid (fun W => norm_any (F n) (F m) n m W (F_is n) (F_is m) (by omega) (by omega))
  have HT := Lib.hid (fun W => turn_any _ _ n m k W (F_is n) (F_is m) (by omega) (by omega))
  have HCl := Lib.hid (fun W => clean_any 0 0 W (by decide) (by decide))
  rw [F_zero] at HCl
  have HMn := Lib.hid (fun W => make_any (n * n + m * m) 0 W)
  rw [F_zero] at HMn
  have o0 : FloatKind.f64.format.order 0 0 = some .eq := ord_eq is0 is0 (by decide) (by decide) rfl
  have oN := ord_self (n * n + m * m) (by omega)
  have o1 := ord_self (tRe n m k) (by omega)
  have o2 := ord_self (tIm n m k) (by omega)
  have c1 := conv_fi (F_is n) (by omega)
  have c2 := conv_fi (F_is m) (by omega)
  have hk4 : -3 ≤ k.tmod 4 ∧ k.tmod 4 ≤ 3 := by
    have h : (k.tmod 4).natAbs < 4 := by rw [Int.natAbs_tmod]; exact Nat.mod_lt _ (by decide)
    omega
  have hkk : k.tmod 4 % 4 = k % 4 := by
    have h := Int.tdiv_mul_add_tmod k 4
    omega
  have bm : -8388608 ≤ m ∧ m ≤ 8388608 := by omega
  clear bt nn1 nn2 ba bb
  have hr : k % 4 = 0 ∨ k % 4 = 1 ∨ k % 4 = 2 ∨ k % 4 = 3 := by omega
  have key : ∃ ur ui : Nat, ∃ r : Nat, r < 4 ∧ k.tmod 4 % 4 = r ∧ (#[Value.complex .f64 4607182418800017408 0, Value.complex .f64 0 4607182418800017408, Value.complex .f64 13830554455654793216 0, Value.complex .f64 0 13830554455654793216][r]? = some (.complex .f64 ur ui)) ∧
      ∀ W, Calls Try.prog 14 #[.complex .f64 (F n) (F m), .complex .f64 ur ui] W fun e w' => e = .returned (.tuple #[.complex .f64 (F (tRe n m k)) (F (tIm n m k)), .int .i64 0]) ∧ Below W.heap.size W w' := by
    rcases hr with hr | hr | hr | hr
    · refine ⟨_, _, 0, by omega, by rw [hkk, hr]; rfl, rfl, fun W => ?_⟩
      have h := mul_any (F n) (F m) _ _ n m 1 0 W (F_is n) (F_is m) is1 is0 (by omega) (by omega) (by decide) (by decide)
      rw [show n * 1 - m * 0 = tRe n m k from by simp [tRe, hr], show n * 0 + m * 1 = tIm n m k from by simp [tIm, hr]] at h
      exact h
    · refine ⟨_, _, 1, by omega, by rw [hkk, hr]; rfl, rfl, fun W => ?_⟩
      have h := mul_any (F n) (F m) _ _ n m 0 1 W (F_is n) (F_is m) is0 is1 (by omega) (by omega) (by decide) (by decide)
      rw [show n * 0 - m * 1 = tRe n m k from by simp [tRe, hr], show n * 1 + m * 0 = tIm n m k from by simp [tIm, hr]] at h
      exact h
    · refine ⟨_, _, 2, by omega, by rw [hkk, hr]; rfl, rfl, fun W => ?_⟩
      have h := mul_any (F n) (F m) _ _ n m (-1) 0 W (F_is n) (F_is m) ism1 is0 (by omega) (by omega) (by decide) (by decide)
      rw [show n * -1 - m * 0 = tRe n m k from by simp [tRe, hr], show n * 0 + m * -1 = tIm n m k from by simp [tIm, hr]] at h
      exact h
    · refine ⟨_, _, 3, by omega, by rw [hkk, hr]; rfl, rfl, fun W => ?_⟩
      have h := mul_any (F n) (F m) _ _ n m 0 (-1) W (F_is n) (F_is m) is0 ism1 (by omega) (by omega) (by decide) (by decide)
      rw [show n * 0 - m * -1 = tRe n m k from by simp [tRe, hr], show n * -1 + m * 0 = tIm n m k from by simp [tIm, hr]] at h
      exact h
  obtain ⟨ur, ui, r, hr4, hidx, hat, HU⟩ := key
  have HU' := Lib.hid HU
  clear HU hkk hr hn hm
  generalize n * n + m * m = P at *
  generalize tRe n m k = p at *
  generalize tIm n m k = q at *
  have hcase : r = 0 ∨ r = 1 ∨ r = 2 ∨ r = 3 := by omega
  clear hr4
  rcases hcase with rfl | rfl | rfl | rfl
  all_goals
    simp at hat
    obtain ⟨rfl, rfl⟩ := hat
    go_enter Try.func8, Try.ntmps8
    go_wp2_with fail
    refine (HX.out _).mono ?_; rintro e w' ⟨rfl, rfl⟩
    go_wp2_with fail
    refine (HU'.out _).mono ?_; rintro e w1 ⟨rfl, hb1⟩
    go_wp2_with fail
    refine (HN1.out _).mono ?_; rintro e w2 ⟨rfl, hb2⟩
    go_wp2_with fail
    refine (HA.out _).mono ?_; rintro e w' ⟨rfl, rfl⟩
    go_wp2_with fail
    refine (HMk.out _).mono ?_; rintro e w' ⟨rfl, rfl⟩
    go_wp2_with fail
    refine (HC.out _).mono ?_; rintro e w3 ⟨rfl, hb3⟩
    go_wp2_with fail
    refine (HN.out _).mono ?_; rintro e w4 ⟨rfl, hb4⟩
    go_wp2_with fail
    refine (told_any _).mono ?_; rintro e w5 ⟨rfl, hb5⟩
    go_wp2_with fail
    refine (HT.out _).mono ?_; rintro e w' ⟨rfl, rfl⟩
    go_wp2_with fail
    refine (HCl.out _).mono ?_; rintro e w' ⟨rfl, rfl⟩
    go_wp2_with fail
    refine (HMn.out _).mono ?_; rintro e w' ⟨rfl, rfl⟩
    go_wp2
    go_ret
    have s1 := hb1.size
    have s2 := hb2.size
    have s3 := hb3.size
    have s4 := hb4.size
    have hb0 : Below w.heap.size w w1 := ((Below.refl _ _).alloc (Nat.le_refl _) _).trans (hb1.mono (by simp))
    have s0 := hb0.size
    exact ⟨rfl, (((hb0.trans (hb2.mono (by omega))).trans (hb3.mono (by omega))).trans (hb4.mono (by omega))).trans (hb5.mono (by omega))⟩

end Go.Proofs.Ytdificidpjjhpaa
