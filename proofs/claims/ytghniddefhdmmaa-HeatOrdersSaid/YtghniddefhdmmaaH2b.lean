/- HeatWarms' walk. -/
import Derived.Test.YtghniddefhdmmaaH2a
namespace Go.Proofs.Ytghniddefhdmmaa
open Go.RowKit Flo

theorem less_no {p q u v : Int} (hu : 0 ≤ u) (hv : 0 ≤ v) (h1 : u ≤ p) (h2 : v ≤ q) : lessB p q u v = false := by
  have e1 : u * u ≤ p * p := Int.le_trans (Int.mul_le_mul_of_nonneg_left h1 hu) (Int.mul_le_mul_of_nonneg_right h1 (by omega))
  have e2 : v * v ≤ q * q := Int.le_trans (Int.mul_le_mul_of_nonneg_left h2 hv) (Int.mul_le_mul_of_nonneg_right h2 (by omega))
  show (if p * p + q * q = u * u + v * v then (if p = u then decide (q < v) else decide (p < u)) else decide (p * p + q * q < u * u + v * v)) = false
  split
  · split
    · simp; omega
    · simp; omega
  · generalize p * p = a at *
    generalize q * q = b at *
    generalize u * u = c at *
    generalize v * v = d at *
    simp; omega

theorem tc_le (p q : Int) (s : Bool) (hp : p ≤ 1048576) (hq : q ≤ 1048576) (hp0 : 0 ≤ p) (hq0 : 0 ≤ q) : (p ≤ tcR p s ∧ tcR p s ≤ 1048576) ∧ q ≤ tcW q s ∧ tcW q s ≤ 1048576 := by
  cases s
  · have e1 : tcR p false = min (p + 1) 1048576 := rfl
    have e2 : tcW q false = q := rfl
    rw [e1, e2]; omega
  · have e1 : tcR p true = p := rfl
    have e2 : tcW q true = min (q + 1) 1048576 := rfl
    rw [e1, e2]; omega

theorem mask20 (a : Int) : bits .and .i64 a 1048575 = ((a % 1048576).toNat : Int) := by
  rw [show (1048575 : Int) = 2 ^ 20 - 1 by decide, mask64 a 20 (by decide)]
  rw [Int.toNat_of_nonneg (by omega)]; rfl
theorem mask10 (a : Int) : bits .and .i64 a 1023 = ((a % 1024).toNat : Int) := by
  rw [show (1023 : Int) = 2 ^ 10 - 1 by decide, mask64 a 10 (by decide)]
  rw [Int.toNat_of_nonneg (by omega)]; rfl

theorem rightc_any (a b : Int) (p q : Int) (w : World) (ha : bits .and .i64 a 1048575 = p) (hb : bits .and .i64 b 1048575 = q) :
    Calls Try.prog 6 #[.int .i64 a, .int .i64 b] w fun e w' => e = .returned (.complex .f64 (F p) (F q)) ∧ w = w' := by
  go_enter Try.func6, Try.ntmps6
  go_wp2_with fail
  refine (make_any _ _ _).mono ?_; rintro e w' ⟨rfl, rfl⟩
  go_wp2
  go_ret
  exact ⟨rfl, rfl⟩

/-- The fades so far. -/
def FadR (w : World) (v11 v15 : Value) (wr : World) : Prop := ∃ (i P Q : Nat), v11 = .complex .f64 (F P) (F Q) ∧ v15 = .int .i64 i ∧ i ≤ 21 ∧ P * 2 ^ i < 1048576 ∧ Q * 2 ^ i < 1048576 ∧ Below w.heap.size w wr

theorem fad_step {P i : Nat} (h : P * 2 ^ i < 1048576) : P / 2 * 2 ^ (i + 1) < 1048576 := by
  have e : P / 2 * 2 ^ (i + 1) = P / 2 * 2 * 2 ^ i := by rw [Nat.pow_succ, Nat.mul_assoc, Nat.mul_comm (2 ^ i) 2]
  rw [e]
  exact Nat.lt_of_le_of_lt (Nat.mul_le_mul_right _ (Nat.div_mul_le_self P 2)) h
theorem fad_lt {P i : Nat} (h : P * 2 ^ i < 1048576) : P < 1048576 :=
  Nat.lt_of_le_of_lt (Nat.le_mul_of_pos_right P (Nat.two_pow_pos i)) h

set_option maxRecDepth 100000 in
set_option maxHeartbeats 4000000 in
theorem heatWarms_walk (a0 a1 a2 a3 : Int) (a4 : Bool) (w : World) :
    Calls Try.prog 3 #[.int .i64 a0, .int .i64 a1, .int .i64 a2, .int .i64 a3, .bool a4] w fun e w' => e = .returned (.bool true) ∧ Below w.heap.size w w' := by
  obtain ⟨p, hp1, hp⟩ : ∃ p : Nat, bits .and .i64 a0 1048575 = (p : Int) ∧ p < 1048576 := ⟨_, mask20 a0, by omega⟩
  obtain ⟨q, hq1, hq⟩ : ∃ p : Nat, bits .and .i64 a1 1048575 = (p : Int) ∧ p < 1048576 := ⟨_, mask20 a1, by omega⟩
  obtain ⟨c, hc1, hc⟩ : ∃ p : Nat, bits .and .i64 a2 1023 = (p : Int) ∧ p < 1024 := ⟨_, mask10 a2, by omega⟩
  obtain ⟨d, hd1, hd⟩ : ∃ p : Nat, bits .and .i64 a3 1023 = (p : Int) ∧ p < 1024 := ⟨_, mask10 a3, by omega⟩
  go_enter Try.func3, Try.ntmps3
  go_wp2_with fail
  refine (rightc_any _ _ _ _ _ hp1 hq1).mono ?_; rintro e w1 ⟨rfl, rfl⟩
  go_wp2_with fail
  refine (make_any _ _ _).mono ?_; rintro e w1 ⟨rfl, rfl⟩
  go_wp2_with fail
  refine (touch_any _ _ p q a4 _ (F_is _) (F_is _) ⟨by omega, by omega⟩ ⟨by omega, by omega⟩).mono ?_; rintro e w1 ⟨rfl, rfl⟩
  go_wp2_with fail
  obtain ⟨⟨t1, t2⟩, t3, t4⟩ := tc_le (p : Int) (q : Int) a4 (by omega) (by omega) (by omega) (by omega)
  refine (rless_any _ _ _ _ (tcR p a4) (tcW q a4) p q _ (F_is _) (F_is _) (F_is _) (F_is _) (by omega) (by omega) (by omega) (by omega)).mono ?_; rintro e w1 ⟨rfl, rfl⟩
  rw [less_no (by omega) (by omega) t1 t3]
  clear t1 t2 t3 t4
  go_wp2_with fail
  by_cases hr : p + c ≤ 1048576 ∧ q + d ≤ 1048576
  · obtain ⟨hr1, hr2⟩ := hr
    refine (right_yes _ _ _ _ _ (F_is _) (F_is _) ⟨by omega, by omega⟩ ⟨by omega, by omega⟩).mono ?_; rintro e w1 ⟨rfl, rfl⟩
    go_wp2_with fail
    refine (fade_any _ _ p q _ (F_is _) (F_is _) ⟨by omega, by omega⟩ ⟨by omega, by omega⟩).mono ?_; rintro e w1 ⟨rfl, rfl⟩
    go_wp2_with fail
    refine (fade_any _ _ (p + c) (q + d) _ (F_is _) (F_is _) ⟨by omega, by omega⟩ ⟨by omega, by omega⟩).mono ?_; rintro e w1 ⟨rfl, rfl⟩
    obtain ⟨x1, hx1⟩ : ∃ x : Int, (p : Int) / 2 = x := ⟨_, rfl⟩
    obtain ⟨x2, hx2⟩ : ∃ x : Int, (q : Int) / 2 = x := ⟨_, rfl⟩
    obtain ⟨x3, hx3⟩ : ∃ x : Int, ((p : Int) + c) / 2 = x := ⟨_, rfl⟩
    obtain ⟨x4, hx4⟩ : ∃ x : Int, ((q : Int) + d) / 2 = x := ⟨_, rfl⟩
    have l1 : x1 ≤ x3 := by omega
    have l2 : x2 ≤ x4 := by omega
    have b1 : 0 ≤ x1 ∧ x3 ≤ 1048576 := by omega
    have b2 : 0 ≤ x2 ∧ x4 ≤ 1048576 := by omega
    rw [hx1, hx2, hx3, hx4]
    have HC := Lib.hid (And.intro hc1 hd1)
    clear hx1 hx2 hx3 hx4 hr1 hr2 hc1 hd1
    by_cases h1 : x1 = x3
    · have o1 := ord_eq (F_is x1) (F_is x3) (by omega) (by omega) h1
      by_cases h2 : x2 = x4
      · have o2 := ord_eq (F_is x2) (F_is x4) (by omega) (by omega) h2
        clear h1 h2
        go_wp2_with fail
        obtain ⟨wo, rfl⟩ : ∃ wo : World, wo = w := ⟨_, rfl⟩
        go_loopw [11, 15] (FadR wo) (fun _ v _ => 21 - cnt v)
        case atStart => exact ⟨0, p, q, rfl, rfl, by omega, by simpa using hp, by simpa using hq, Below.refl _ _⟩
        case round =>
          obtain ⟨i, P, Q, rfl, rfl, hi, hP, hQ, hb⟩ := hrel
          have HB := Lib.hid hb
          have HP := Lib.hid hP
          have HQ := Lib.hid hQ
          have hPl := fad_lt hP
          have hQl := fad_lt hQ
          clear hb hP hQ
          by_cases hin : i < 21
          · go_wp2_with fail
            refine (fade_any _ _ P Q _ (F_is _) (F_is _) ⟨by omega, by omega⟩ ⟨by omega, by omega⟩).mono ?_; rintro e w2 ⟨rfl, rfl⟩
            have e1 : (P : Int) / 2 = ((P / 2 : Nat) : Int) := rfl
            have e2 : (Q : Int) / 2 = ((Q / 2 : Nat) : Int) := rfl
            rw [e1, e2]
            clear e1 e2
            go_wp2
            go_roundw
            case rel => exact ⟨i + 1, P / 2, Q / 2, rfl, by go_num, by omega, fad_step HP.out, fad_step HQ.out, HB.out⟩
            case measure => simp [cnt]; omega
          · obtain rfl : i = 21 := by omega
            obtain rfl : P = 0 := by have := HP.out; omega
            obtain rfl : Q = 0 := by have := HQ.out; omega
            have o1 := ord_eq (F_is ((0 : Nat) : Int)) is0 (by decide) (by decide) rfl
            clear hPl hQl
            go_wp2_with fail
            refine (told_any _).mono ?_; rintro e w2 ⟨rfl, hb2⟩
            have HB2 := Lib.hid (HB.out.trans (hb2.mono HB.out.size))
            clear hb2
            go_wp2
            go_ret
            exact ⟨rfl, HB2.out⟩
      · have o2 := ord_lt (F_is x2) (F_is x4) (by omega) (by omega) (by omega)
        clear h1 h2
        go_wp2_with fail
        obtain ⟨wo, rfl⟩ : ∃ wo : World, wo = w := ⟨_, rfl⟩
        go_loopw [11, 15] (FadR wo) (fun _ v _ => 21 - cnt v)
        case atStart => exact ⟨0, p, q, rfl, rfl, by omega, by simpa using hp, by simpa using hq, Below.refl _ _⟩
        case round =>
          obtain ⟨i, P, Q, rfl, rfl, hi, hP, hQ, hb⟩ := hrel
          have HB := Lib.hid hb
          have HP := Lib.hid hP
          have HQ := Lib.hid hQ
          have hPl := fad_lt hP
          have hQl := fad_lt hQ
          clear hb hP hQ
          by_cases hin : i < 21
          · go_wp2_with fail
            refine (fade_any _ _ P Q _ (F_is _) (F_is _) ⟨by omega, by omega⟩ ⟨by omega, by omega⟩).mono ?_; rintro e w2 ⟨rfl, rfl⟩
            have e1 : (P : Int) / 2 = ((P / 2 : Nat) : Int) := rfl
            have e2 : (Q : Int) / 2 = ((Q / 2 : Nat) : Int) := rfl
            rw [e1, e2]
            clear e1 e2
            go_wp2
            go_roundw
            case rel => exact ⟨i + 1, P / 2, Q / 2, rfl, by go_num, by omega, fad_step HP.out, fad_step HQ.out, HB.out⟩
            case measure => simp [cnt]; omega
          · obtain rfl : i = 21 := by omega
            obtain rfl : P = 0 := by have := HP.out; omega
            obtain rfl : Q = 0 := by have := HQ.out; omega
            have o1 := ord_eq (F_is ((0 : Nat) : Int)) is0 (by decide) (by decide) rfl
            clear hPl hQl
            go_wp2_with fail
            refine (told_any _).mono ?_; rintro e w2 ⟨rfl, hb2⟩
            have HB2 := Lib.hid (HB.out.trans (hb2.mono HB.out.size))
            clear hb2
            go_wp2
            go_ret
            exact ⟨rfl, HB2.out⟩
    · have o1 := ord_lt (F_is x1) (F_is x3) (by omega) (by omega) (by omega)
      by_cases h2 : x2 = x4
      · have o2 := ord_eq (F_is x2) (F_is x4) (by omega) (by omega) h2
        clear h1 h2
        go_wp2_with fail
        obtain ⟨wo, rfl⟩ : ∃ wo : World, wo = w := ⟨_, rfl⟩
        go_loopw [11, 15] (FadR wo) (fun _ v _ => 21 - cnt v)
        case atStart => exact ⟨0, p, q, rfl, rfl, by omega, by simpa using hp, by simpa using hq, Below.refl _ _⟩
        case round =>
          obtain ⟨i, P, Q, rfl, rfl, hi, hP, hQ, hb⟩ := hrel
          have HB := Lib.hid hb
          have HP := Lib.hid hP
          have HQ := Lib.hid hQ
          have hPl := fad_lt hP
          have hQl := fad_lt hQ
          clear hb hP hQ
          by_cases hin : i < 21
          · go_wp2_with fail
            refine (fade_any _ _ P Q _ (F_is _) (F_is _) ⟨by omega, by omega⟩ ⟨by omega, by omega⟩).mono ?_; rintro e w2 ⟨rfl, rfl⟩
            have e1 : (P : Int) / 2 = ((P / 2 : Nat) : Int) := rfl
            have e2 : (Q : Int) / 2 = ((Q / 2 : Nat) : Int) := rfl
            rw [e1, e2]
            clear e1 e2
            go_wp2
            go_roundw
            case rel => exact ⟨i + 1, P / 2, Q / 2, rfl, by go_num, by omega, fad_step HP.out, fad_step HQ.out, HB.out⟩
            case measure => simp [cnt]; omega
          · obtain rfl : i = 21 := by omega
            obtain rfl : P = 0 := by have := HP.out; omega
            obtain rfl : Q = 0 := by have := HQ.out; omega
            have o1 := ord_eq (F_is ((0 : Nat) : Int)) is0 (by decide) (by decide) rfl
            clear hPl hQl
            go_wp2_with fail
            refine (told_any _).mono ?_; rintro e w2 ⟨rfl, hb2⟩
            have HB2 := Lib.hid (HB.out.trans (hb2.mono HB.out.size))
            clear hb2
            go_wp2
            go_ret
            exact ⟨rfl, HB2.out⟩
      · have o2 := ord_lt (F_is x2) (F_is x4) (by omega) (by omega) (by omega)
        clear h1 h2
        go_wp2_with fail
        obtain ⟨wo, rfl⟩ : ∃ wo : World, wo = w := ⟨_, rfl⟩
        go_loopw [11, 15] (FadR wo) (fun _ v _ => 21 - cnt v)
        case atStart => exact ⟨0, p, q, rfl, rfl, by omega, by simpa using hp, by simpa using hq, Below.refl _ _⟩
        case round =>
          obtain ⟨i, P, Q, rfl, rfl, hi, hP, hQ, hb⟩ := hrel
          have HB := Lib.hid hb
          have HP := Lib.hid hP
          have HQ := Lib.hid hQ
          have hPl := fad_lt hP
          have hQl := fad_lt hQ
          clear hb hP hQ
          by_cases hin : i < 21
          · go_wp2_with fail
            refine (fade_any _ _ P Q _ (F_is _) (F_is _) ⟨by omega, by omega⟩ ⟨by omega, by omega⟩).mono ?_; rintro e w2 ⟨rfl, rfl⟩
            have e1 : (P : Int) / 2 = ((P / 2 : Nat) : Int) := rfl
            have e2 : (Q : Int) / 2 = ((Q / 2 : Nat) : Int) := rfl
            rw [e1, e2]
            clear e1 e2
            go_wp2
            go_roundw
            case rel => exact ⟨i + 1, P / 2, Q / 2, rfl, by go_num, by omega, fad_step HP.out, fad_step HQ.out, HB.out⟩
            case measure => simp [cnt]; omega
          · obtain rfl : i = 21 := by omega
            obtain rfl : P = 0 := by have := HP.out; omega
            obtain rfl : Q = 0 := by have := HQ.out; omega
            have o1 := ord_eq (F_is ((0 : Nat) : Int)) is0 (by decide) (by decide) rfl
            clear hPl hQl
            go_wp2_with fail
            refine (told_any _).mono ?_; rintro e w2 ⟨rfl, hb2⟩
            have HB2 := Lib.hid (HB.out.trans (hb2.mono HB.out.size))
            clear hb2
            go_wp2
            go_ret
            exact ⟨rfl, HB2.out⟩
  · refine (right_no _ _ _ _ _ (F_is _) (F_is _) (by omega) (by omega) (by omega)).mono ?_; rintro e w1 ⟨rfl, rfl⟩
    go_wp2_with fail
    obtain ⟨wo, rfl⟩ : ∃ wo : World, wo = w := ⟨_, rfl⟩
    go_loopw [11, 15] (FadR wo) (fun _ v _ => 21 - cnt v)
    case atStart => exact ⟨0, p, q, rfl, rfl, by omega, by simpa using hp, by simpa using hq, Below.refl _ _⟩
    case round =>
      obtain ⟨i, P, Q, rfl, rfl, hi, hP, hQ, hb⟩ := hrel
      have HB := Lib.hid hb
      have HP := Lib.hid hP
      have HQ := Lib.hid hQ
      have hPl := fad_lt hP
      have hQl := fad_lt hQ
      clear hb hP hQ
      by_cases hin : i < 21
      · go_wp2_with fail
        refine (fade_any _ _ P Q _ (F_is _) (F_is _) ⟨by omega, by omega⟩ ⟨by omega, by omega⟩).mono ?_; rintro e w2 ⟨rfl, rfl⟩
        have e1 : (P : Int) / 2 = ((P / 2 : Nat) : Int) := rfl
        have e2 : (Q : Int) / 2 = ((Q / 2 : Nat) : Int) := rfl
        rw [e1, e2]
        clear e1 e2
        go_wp2
        go_roundw
        case rel => exact ⟨i + 1, P / 2, Q / 2, rfl, by go_num, by omega, fad_step HP.out, fad_step HQ.out, HB.out⟩
        case measure => simp [cnt]; omega
      · obtain rfl : i = 21 := by omega
        obtain rfl : P = 0 := by have := HP.out; omega
        obtain rfl : Q = 0 := by have := HQ.out; omega
        have o1 := ord_eq (F_is ((0 : Nat) : Int)) is0 (by decide) (by decide) rfl
        clear hPl hQl
        go_wp2_with fail
        refine (told_any _).mono ?_; rintro e w2 ⟨rfl, hb2⟩
        have HB2 := Lib.hid (HB.out.trans (hb2.mono HB.out.size))
        clear hb2
        go_wp2
        go_ret
        exact ⟨rfl, HB2.out⟩
end Go.Proofs.Ytghniddefhdmmaa
