/- What part, Whole, Small, forms, Norm and Less of the reference of layer 1 do with small whole numbers: contracts of each. -/
import Derived.Test.YtghniddefhdmmaaHta
namespace Go.Proofs.Ytghniddefhdmmaa
open Go.RowKit Flo

theorem mfar52 : (14064741636278059008 : Nat) = F (-4503599627370496) := by decide +kernel
theorem mfar52Is : Is 14064741636278059008 (-4503599627370496) := .inl mfar52

set_option maxHeartbeats 1000000 in
theorem rpart_any (x : Nat) (n : Int) (w : World) (hx : Is x n) (hn : n.natAbs ≤ 16777216) :
    Calls Try.prog 24 #[.float .f64 x] w fun e w' => e = .returned (.tuple #[.int .i64 n, .bool true]) ∧ w = w' := by
  have o1 := ord_gt hx mfar52Is (by omega) (by decide) (by omega)
  have o2 := ord_lt hx far52Is (by omega) (by decide) (by omega)
  have o3 := ord_eq (F_is n) hx (by omega) (by omega) rfl
  have k1 := conv_fi hx (by omega)
  have k2 := fun w => conv_if n w
  clear hx hn
  go_enter Try.func24, Try.ntmps24
  go_wp2
  go_ret2
  exact ⟨rfl, rfl⟩

set_option maxHeartbeats 1000000 in
theorem rwhole_any (a b : Nat) (n m : Int) (w : World) (ha : Is a n) (hb : Is b m) (hn : n.natAbs ≤ 16777216) (hm : m.natAbs ≤ 16777216) :
    Calls Try.prog 16 #[.complex .f64 a b] w fun e w' => e = .returned (.tuple #[.int .i64 n, .int .i64 m, .bool true]) ∧ w = w' := by
  have H1 := Lib.hid (fun W => rpart_any a n W ha hn)
  have H2 := Lib.hid (fun W => rpart_any b m W hb hm)
  clear ha hb hn hm
  go_enter Try.func16, Try.ntmps16
  go_wp2_with fail
  refine (H1.out _).mono ?_; rintro e w' ⟨rfl, rfl⟩
  go_wp2_with fail
  refine (H2.out _).mono ?_; rintro e w' ⟨rfl, rfl⟩
  go_wp2
  go_ret3
  exact ⟨rfl, rfl⟩

theorem rnear_yes (n k : Int) (w : World) (h1 : -k ≤ n) (h2 : n ≤ k) (hk : 0 ≤ k ∧ k ≤ 4503599627370496) :
    Calls Try.prog 34 #[.int .i64 n, .int .i64 k] w fun e w' => e = .returned (.bool true) ∧ w = w' := by
  obtain ⟨k1, k2⟩ := hk
  have d1 : decide (-k ≤ n) = true := by simpa using h1
  have d2 : decide (n ≤ k) = true := by simpa using h2
  go_enter Try.func34, Try.ntmps34
  go_wp2
  go_ret
  exact ⟨by first | rfl | (simp; done) | (simp; omega), rfl⟩

set_option maxHeartbeats 1000000 in
theorem rsmall_any (a b : Nat) (n m : Int) (w : World) (ha : Is a n) (hb : Is b m) (hn : n.natAbs ≤ 16777216) (hm : m.natAbs ≤ 16777216) :
    Calls Try.prog 29 #[.complex .f64 a b] w fun e w' => e = .returned (.bool true) ∧ w = w' := by
  have H1 := Lib.hid (fun W => rwhole_any a b n m W ha hb hn hm)
  have H2 := Lib.hid (fun W => rnear_yes n 16777216 W (by omega) (by omega) (by omega))
  have H3 := Lib.hid (fun W => rnear_yes m 16777216 W (by omega) (by omega) (by omega))
  clear ha hb hn hm
  go_enter Try.func29, Try.ntmps29
  go_wp2_with fail
  refine (H1.out _).mono ?_; rintro e w' ⟨rfl, rfl⟩
  go_wp2_with fail
  refine (H2.out _).mono ?_; rintro e w' ⟨rfl, rfl⟩
  go_wp2_with fail
  refine (H3.out _).mono ?_; rintro e w' ⟨rfl, rfl⟩
  go_wp2
  go_ret
  exact ⟨rfl, rfl⟩

set_option maxHeartbeats 1000000 in
theorem rforms_any (a b : Nat) (n m : Int) (w : World) (ha : Is a n) (hb : Is b m) (hn : n.natAbs ≤ 16777216) (hm : m.natAbs ≤ 16777216) :
    Calls Try.prog 23 #[.complex .f64 a b, .complex .f64 a b, .bool true] w fun e w' => e = .returned (.int .i64 0) ∧ w = w' := by
  have H1 := Lib.hid (fun W => rwhole_any a b n m W ha hb hn hm)
  have H2 := Lib.hid (fun W => rsmall_any a b n m W ha hb hn hm)
  clear ha hb hn hm
  go_enter Try.func23, Try.ntmps23
  go_wp2_with fail
  refine (H1.out _).mono ?_; rintro e w' ⟨rfl, rfl⟩
  go_wp2_with fail
  refine (H1.out _).mono ?_; rintro e w' ⟨rfl, rfl⟩
  go_wp2_with fail
  refine (H2.out _).mono ?_; rintro e w' ⟨rfl, rfl⟩
  go_wp2_with fail
  refine (H2.out _).mono ?_; rintro e w' ⟨rfl, rfl⟩
  go_wp2
  go_ret
  exact ⟨rfl, rfl⟩

set_option maxHeartbeats 1000000 in
theorem rnorm_any (a b : Nat) (n m : Int) (w : World) (ha : Is a n) (hb : Is b m) (hn : n.natAbs ≤ 16777216) (hm : m.natAbs ≤ 16777216) :
    Calls Try.prog 14 #[.complex .f64 a b] w fun e w' => e = .returned (.tuple #[.int .i64 (n * n + m * m), .int .i64 0]) ∧ w = w' := by
  have H1 := Lib.hid (fun W => rforms_any a b n m W ha hb hn hm)
  have H2 := Lib.hid (fun W => rwhole_any a b n m W ha hb hn hm)
  have k1 := mul_bd hn hn
  have k2 := mul_bd hm hm
  have e1 : -281474976710656 ≤ n * n ∧ n * n ≤ 281474976710656 := by omega
  have e2 : -281474976710656 ≤ m * m ∧ m * m ≤ 281474976710656 := by omega
  obtain ⟨l1, l2⟩ := e1
  obtain ⟨l3, l4⟩ := e2
  clear ha hb hn hm k1 k2
  go_enter Try.func14, Try.ntmps14
  go_wp2_with fail
  refine (H1.out _).mono ?_; rintro e w' ⟨rfl, rfl⟩
  go_wp2_with fail
  refine (H2.out _).mono ?_; rintro e w' ⟨rfl, rfl⟩
  go_wp2
  go_ret2
  exact ⟨rfl, rfl⟩

set_option maxHeartbeats 1000000 in
theorem rless_any (a b c d : Nat) (n m u v : Int) (w : World) (ha : Is a n) (hb : Is b m) (hc : Is c u) (hd : Is d v) (hn : n.natAbs ≤ 16777216) (hm : m.natAbs ≤ 16777216) (hu : u.natAbs ≤ 16777216) (hv : v.natAbs ≤ 16777216) :
    Calls Try.prog 8 #[.complex .f64 a b, .complex .f64 c d] w fun e w' => e = .returned (.bool (lessB n m u v)) ∧ w = w' := by
  have HN := Lib.hid (fun W => rnorm_any a b n m W ha hb hn hm)
  have HM := Lib.hid (fun W => rnorm_any c d u v W hc hd hu hv)
  have HA := Lib.hid (fun W => rwhole_any a b n m W ha hb hn hm)
  have HB := Lib.hid (fun W => rwhole_any c d u v W hc hd hu hv)
  have hL := Lib.hid (show lessB n m u v = (if n * n + m * m = u * u + v * v then (if n = u then decide (m < v) else decide (n < u)) else decide (n * n + m * m < u * u + v * v)) from rfl)
  clear ha hb hc hd hn hm hu hv
  generalize n * n + m * m = P at HN hL
  generalize u * u + v * v = Q at HM hL
  go_enter Try.func8, Try.ntmps8
  go_wp2_with fail
  refine (HN.out _).mono ?_; rintro e w1 ⟨rfl, rfl⟩
  go_wp2_with fail
  refine (HM.out _).mono ?_; rintro e w1 ⟨rfl, rfl⟩
  go_wp2_with fail
  refine (HA.out _).mono ?_; rintro e w1 ⟨rfl, rfl⟩
  go_wp2_with fail
  refine (HB.out _).mono ?_; rintro e w1 ⟨rfl, rfl⟩
  by_cases hPQ : P = Q
  · have bPQ : (P != Q) = false := by simpa using hPQ
    by_cases hnu : n = u
    · have b1 : (n != u) = false := by simpa using hnu
      have hfin := Lib.hid (show lessB n m u v = decide (m < v) by rw [hL.out, if_pos hPQ, if_pos hnu])
      clear hPQ hnu
      go_wp2
      go_ret
      exact ⟨ret_bool hfin.out.symm, rfl⟩
    · have b1 : (n != u) = true := by simpa using hnu
      have hfin := Lib.hid (show lessB n m u v = decide (n < u) by rw [hL.out, if_pos hPQ, if_neg hnu])
      clear hPQ hnu
      go_wp2
      go_ret
      exact ⟨ret_bool hfin.out.symm, rfl⟩
  · have bPQ : (P != Q) = true := by simpa using hPQ
    have hfin := Lib.hid (show lessB n m u v = decide (P < Q) by rw [hL.out, if_neg hPQ])
    clear hPQ
    go_wp2
    go_ret
    exact ⟨ret_bool hfin.out.symm, rfl⟩
end Go.Proofs.Ytghniddefhdmmaa
