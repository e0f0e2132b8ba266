/- What the functions of package gauss do, called with whole numbers: contracts of each. Conditions: the parts are whole numbers of limited size. -/
import Derived.Test.YtkpngkdkkcadfaaRows
import Derived.Test.YtkpngkdkkcadfaaFlo
import Derived.WalkKit
import Derived.WalkSpells
import Derived.WalkLawsBesides
import Derived.Lib.Hide
namespace Go.Proofs.Ytkpngkdkkcadfaa
open Go.RowKit Flo

theorem un39 : (Try.prog.underlying 105).isSome = true := by kernel_rfl
theorem un39' : Try.prog.underlying 105 = some (.float .f64) := by kernel_rfl
theorem un3 : Try.prog.underlying 3 = some (.int .i64) := by kernel_rfl
theorem un3' : (Try.prog.underlying 3).isSome = true := by kernel_rfl

/-- From a float to an int. -/
theorem conv_fi {x : Nat} {n : Int} (hx : Is x n) (hn : n.natAbs ≤ 2 ^ 53) (w : World) : (convert 105 3 (.float .f64 x)).run Try.prog w = .ok (.int .i64 n) w :=
  run_convert_float_int w 105 3 .f64 .i64 x n un39 un3 (toInt_is hx hn)

/-- From an int to a float. -/
theorem conv_if (n : Int) (w : World) : (convert 3 105 (.int .i64 n)).run Try.prog w = .ok (.float .f64 (F n)) w :=
  run_convert_int_float w 3 105 .i64 .f64 n un3' un39'

theorem zeroF : Is 0 0 := .inl F_zero.symm
theorem F_is (n : Int) : Is (F n) n := .inl rfl
theorem far52 : (4841369599423283200 : Nat) = F 4503599627370496 := by decide +kernel
theorem far24 : (4715268809856909312 : Nat) = F 16777216 := by decide +kernel

theorem ord_lt {x y : Nat} {n m : Int} (hx : Is x n) (hy : Is y m) (hn : n.natAbs ≤ 2 ^ 53) (hm : m.natAbs ≤ 2 ^ 53) (h : n < m) : FloatKind.f64.format.order x y = some .lt := by
  rw [order_is hx hy hn hm, Int.compare_eq_lt.2 h]
theorem ord_gt {x y : Nat} {n m : Int} (hx : Is x n) (hy : Is y m) (hn : n.natAbs ≤ 2 ^ 53) (hm : m.natAbs ≤ 2 ^ 53) (h : m < n) : FloatKind.f64.format.order x y = some .gt := by
  rw [order_is hx hy hn hm, Int.compare_eq_gt.2 h]
theorem ord_eq {x y : Nat} {n m : Int} (hx : Is x n) (hy : Is y m) (hn : n.natAbs ≤ 2 ^ 53) (hm : m.natAbs ≤ 2 ^ 53) (h : n = m) : FloatKind.f64.format.order x y = some .eq := by
  rw [order_is hx hy hn hm, Int.compare_eq_eq.2 h]

/-- No further than that, to both sides. -/
def nearB (n q : Int) : Bool := decide (-q ≤ n) && decide (n ≤ q)

/-- How one part stands to the limit, to both sides. -/
structure Orders (x f : Nat) (n q : Int) : Prop where
  lo : n < -q → FloatKind.f64.format.order x (Op.negFloat .f64 f) = some .lt
  hi1 : q < n → FloatKind.f64.format.order x (Op.negFloat .f64 f) = some .gt
  hi2 : q < n → FloatKind.f64.format.order x f = some .gt
  geq : -q ≤ n → ∃ c, FloatKind.f64.format.order x (Op.negFloat .f64 f) = some c ∧ (c = .gt ∨ c = .eq)
  leq : n ≤ q → ∃ c, FloatKind.f64.format.order x f = some c ∧ (c = .lt ∨ c = .eq)
  back : FloatKind.f64.format.order (F n) x = some .eq

theorem part_orders {x f : Nat} {n q : Int} (hx : Is x n) (hf : Is f q) (hn : n.natAbs ≤ 2 ^ 53) (hq0 : 0 ≤ q) (hq : q ≤ 4503599627370496) : Orders x f n q := by
  have hN := neg_is hf (by omega)
  refine ⟨fun h => ord_lt hx hN hn (by omega) h, fun h => ord_gt hx hN hn (by omega) (by omega), fun h => ord_gt hx hf hn (by omega) h, fun h => ?_, fun h => ?_, ord_eq (F_is n) hx hn hn rfl⟩
  · rcases Int.lt_or_eq_of_le h with h | h
    · exact ⟨_, ord_gt hx hN hn (by omega) h, .inl rfl⟩
    · exact ⟨_, ord_eq hx hN hn (by omega) h.symm, .inr rfl⟩
  · rcases Int.lt_or_eq_of_le h with h | h
    · exact ⟨_, ord_lt hx hf hn (by omega) h, .inl rfl⟩
    · exact ⟨_, ord_eq hx hf hn (by omega) h, .inr rfl⟩

theorem near_yes {n q : Int} (h1 : -q ≤ n) (h2 : n ≤ q) : nearB n q = true := by simp [nearB, h1, h2]
theorem near_no1 {n q : Int} (h1 : n < -q) : nearB n q = false := by simp [nearB]; omega
theorem near_no2 {n q : Int} (h1 : q < n) : nearB n q = false := by simp [nearB]; omega

set_option maxHeartbeats 1000000 in
theorem within_any (a b f : Nat) (n m q : Int) (w : World) (ha : Is a n) (hb : Is b m) (hf : Is f q) (hq0 : 0 ≤ q) (hq : q ≤ 4503599627370496) (hn : n.natAbs ≤ 2 ^ 53) (hm : m.natAbs ≤ 2 ^ 53) :
    Calls Try.prog 58 #[.complex .f64 a b, .float .f64 f] w fun e w' => e = .returned (.bool (nearB n q && nearB m q)) ∧ w = w' := by
  have c1 := conv_fi ha hn
  have c2 := conv_fi hb hm
  have c3 := fun w => conv_if n w
  have c4 := fun w => conv_if m w
  have A := part_orders ha hf hn hq0 hq
  have B := part_orders hb hf hm hq0 hq
  have i0 : ∀ w, (Instr.index 118 (.agg #[.float .f64 a, .float .f64 b]) (.int .i64 0)).run Try.prog w = .ok (.float .f64 a) w := fun _ => by kernel_rfl
  have i1 : ∀ w, (Instr.index 118 (.agg #[.float .f64 a, .float .f64 b]) (.int .i64 1)).run Try.prog w = .ok (.float .f64 b) w := fun _ => by kernel_rfl
  have ng : ∀ w, (Op.unary .neg (.float .f64 f)).run Try.prog w = .ok (.float .f64 (Op.negFloat .f64 f)) w := fun _ => by kernel_rfl
  clear ha hb hf hn hm
  go_enter Try.func58, Try.ntmps58
  go_wp2
  go_loop [12] (fun i => ∃ k : Nat, k ≤ 2 ∧ i = .int .i64 k ∧ (1 ≤ k → nearB n q = true) ∧ (2 ≤ k → nearB m q = true)) (fun i => 2 - (intOf i).toNat)
  case atStart => exact ⟨0, by omega, rfl, by omega, by omega⟩
  case round =>
    obtain ⟨k, hk, rfl, k1, k2⟩ := hrel
    have K1 := Lib.hid k1
    have K2 := Lib.hid k2
    clear k1 k2
    obtain rfl | rfl | rfl : k = 0 ∨ k = 1 ∨ k = 2 := by omega
    · clear hk
      by_cases h1 : n < -q
      · have o := A.lo h1
        go_wp2
        go_ret
        exact ⟨by rw [near_no1 h1]; rfl, rfl⟩
      by_cases h2 : q < n
      · have o := A.hi1 h2
        have o' := A.hi2 h2
        go_wp2
        go_ret
        exact ⟨by rw [near_no2 h2]; rfl, rfl⟩
      have hy := Lib.hid (near_yes (n := n) (q := q) (by omega) (by omega))
      have o7 := A.back
      obtain ⟨x1, o, hx1⟩ := A.geq (by omega)
      obtain ⟨x2, o', hx2⟩ := A.leq (by omega)
      clear h1 h2
      rcases hx1 with rfl | rfl <;> rcases hx2 with rfl | rfl
      all_goals
        go_wp2
        go_round
        case rel => exact ⟨1, by omega, rfl, fun _ => hy.out, by omega⟩
        case measure => simp [intOf]
    · clear hk
      by_cases h1 : m < -q
      · have o := B.lo h1
        go_wp2
        go_ret
        exact ⟨by rw [K1.out (by omega), near_no1 h1]; rfl, rfl⟩
      by_cases h2 : q < m
      · have o := B.hi1 h2
        have o' := B.hi2 h2
        go_wp2
        go_ret
        exact ⟨by rw [K1.out (by omega), near_no2 h2]; rfl, rfl⟩
      have hy := Lib.hid (near_yes (n := m) (q := q) (by omega) (by omega))
      have o7 := B.back
      obtain ⟨x1, o, hx1⟩ := B.geq (by omega)
      obtain ⟨x2, o', hx2⟩ := B.leq (by omega)
      clear h1 h2
      rcases hx1 with rfl | rfl <;> rcases hx2 with rfl | rfl
      all_goals
        go_wp2
        go_round
        case rel => exact ⟨2, by omega, rfl, fun _ => K1.out (by omega), fun _ => hy.out⟩
        case measure => simp [intOf]
    · go_wp2
      go_ret
      exact ⟨by rw [K1.out (by omega), K2.out (by omega)]; rfl, rfl⟩

theorem ret_cx {a b c d : Nat} (h1 : a = c) (h2 : b = d) : Ending.returned (.complex .f64 a b) = .returned (.complex .f64 c d) := by rw [h1, h2]

/-- How a part stands to nought. -/
theorem zero_orders {x : Nat} {n : Int} (hx : Is x n) (hn : n.natAbs ≤ 2 ^ 53) (h0 : n ≠ 0) : ∃ c, FloatKind.f64.format.order x 0 = some c ∧ (c = .lt ∨ c = .gt) := by
  rcases Int.lt_or_gt_of_ne h0 with h | h
  · exact ⟨_, ord_lt hx zeroF hn (by omega) h, .inl rfl⟩
  · exact ⟨_, ord_gt hx zeroF hn (by omega) h, .inr rfl⟩

theorem is_nz {x : Nat} {n : Int} (hx : Is x n) (h0 : n ≠ 0) : x = F n := by
  rcases hx with h | ⟨h, _⟩
  · exact h
  · exact absurd h h0

set_option maxHeartbeats 400000 in
theorem plain_any (a b : Nat) (n m : Int) (w : World) (ha : Is a n) (hb : Is b m) (hn : n.natAbs ≤ 2 ^ 53) (hm : m.natAbs ≤ 2 ^ 53) :
    Calls Try.prog 59 #[.complex .f64 a b] w fun e w' => e = .returned (.complex .f64 (F n) (F m)) ∧ w = w' := by
  by_cases h1 : n = 0
  · subst h1
    have o1 := ord_eq ha zeroF hn hn rfl
    by_cases h2 : m = 0
    · subst h2
      have o2 := ord_eq hb zeroF hm hm rfl
      clear ha hb hn hm
      go_enter Try.func59, Try.ntmps59
      go_wp2
      go_ret
      exact ⟨ret_cx F_zero.symm F_zero.symm, rfl⟩
    · obtain ⟨x2, o2, hx2⟩ := zero_orders hb hm h2
      have hF := Lib.hid (is_nz hb h2)
      clear ha hb hn hm h2
      rcases hx2 with rfl | rfl
      all_goals
        go_enter Try.func59, Try.ntmps59
        go_wp2
        go_ret
        exact ⟨ret_cx F_zero.symm hF.out, rfl⟩
  · obtain ⟨x1, o1, hx1⟩ := zero_orders ha hn h1
    have hG := Lib.hid (is_nz ha h1)
    by_cases h2 : m = 0
    · subst h2
      have o2 := ord_eq hb zeroF hm hm rfl
      clear ha hb hn hm h1
      rcases hx1 with rfl | rfl
      all_goals
        go_enter Try.func59, Try.ntmps59
        go_wp2
        go_ret
        exact ⟨ret_cx hG.out F_zero.symm, rfl⟩
    · obtain ⟨x2, o2, hx2⟩ := zero_orders hb hm h2
      have hF := Lib.hid (is_nz hb h2)
      clear ha hb hn hm h1 h2
      rcases hx1 with rfl | rfl <;> rcases hx2 with rfl | rfl
      all_goals
        go_enter Try.func59, Try.ntmps59
        go_wp2
        go_ret
        exact ⟨ret_cx hG.out hF.out, rfl⟩

/-- A turn, part by part. -/
def tRe (n m k : Int) : Int := if k % 4 = 0 then n else if k % 4 = 1 then -m else if k % 4 = 2 then -n else m
def tIm (n m k : Int) : Int := if k % 4 = 0 then m else if k % 4 = 1 then n else if k % 4 = 2 then -m else -n

theorem one_bits : (4607182418800017408 : Nat) = F 1 := by decide +kernel
theorem mone_bits : (13830554455654793216 : Nat) = F (-1) := by decide +kernel
theorem oneIs : Is 4607182418800017408 1 := .inl one_bits
theorem moneIs : Is 13830554455654793216 (-1) := .inl mone_bits
theorem far52Is : Is 4841369599423283200 4503599627370496 := .inl far52
theorem far24Is : Is 4715268809856909312 16777216 := .inl far24

/-- A product in the walk. -/
theorem run_mul {a b c d re im : Nat} (h : cMulBits a b c d = some (re, im)) (w : World) : (binOp .mul 53 (.complex .f64 a b) (.complex .f64 c d)).run Try.prog w = .ok (.complex .f64 re im) w :=
  run_complex_mul w _ a b c d re im h
theorem run_add {a b c d re im : Nat} (h : cSumBits .add .f64 a b c d = some (re, im)) (w : World) : (binOp .add 53 (.complex .f64 a b) (.complex .f64 c d)).run Try.prog w = .ok (.complex .f64 re im) w :=
  run_complex_sum w .add (.inl rfl) _ .f64 a b c d re im h
theorem run_sub {a b c d re im : Nat} (h : cSumBits .sub .f64 a b c d = some (re, im)) (w : World) : (binOp .sub 53 (.complex .f64 a b) (.complex .f64 c d)).run Try.prog w = .ok (.complex .f64 re im) w :=
  run_complex_sum w .sub (.inr rfl) _ .f64 a b c d re im h

/-- What within says of a whole number. -/
theorem within_yes (a b f : Nat) (n m q : Int) (w : World) (ha : Is a n) (hb : Is b m) (hf : Is f q) (hq0 : 0 ≤ q) (hq : q ≤ 4503599627370496) (hn : n.natAbs ≤ q.natAbs) (hm : m.natAbs ≤ q.natAbs) :
    Calls Try.prog 58 #[.complex .f64 a b, .float .f64 f] w fun e w' => e = .returned (.bool true) ∧ w = w' :=
  (within_any a b f n m q w ha hb hf hq0 hq (by omega) (by omega)).mono fun e w' ⟨he, hw⟩ => ⟨by rw [he, near_yes (by omega) (by omega), near_yes (by omega) (by omega)]; rfl, hw⟩

set_option maxHeartbeats 1000000 in
theorem turn_any (a b : Nat) (n m k : Int) (w : World) (ha : Is a n) (hb : Is b m) (hn : n.natAbs ≤ 4503599627370496) (hm : m.natAbs ≤ 4503599627370496) :
    Calls Try.prog 46 #[.complex .f64 a b, .int .i64 k] w fun e w' => e = .returned (.complex .f64 (F (tRe n m k)) (F (tIm n m k))) ∧ w = w' := by
  have i0 : ∀ w, (Instr.index 107 (.agg #[.complex .f64 4607182418800017408 0, .complex .f64 0 4607182418800017408, .complex .f64 13830554455654793216 0, .complex .f64 0 13830554455654793216]) (.int .i64 0)).run Try.prog w = .ok (.complex .f64 4607182418800017408 0) w := fun _ => by kernel_rfl
  have i1 : ∀ w, (Instr.index 107 (.agg #[.complex .f64 4607182418800017408 0, .complex .f64 0 4607182418800017408, .complex .f64 13830554455654793216 0, .complex .f64 0 13830554455654793216]) (.int .i64 1)).run Try.prog w = .ok (.complex .f64 0 4607182418800017408) w := fun _ => by kernel_rfl
  have i2 : ∀ w, (Instr.index 107 (.agg #[.complex .f64 4607182418800017408 0, .complex .f64 0 4607182418800017408, .complex .f64 13830554455654793216 0, .complex .f64 0 13830554455654793216]) (.int .i64 2)).run Try.prog w = .ok (.complex .f64 13830554455654793216 0) w := fun _ => by kernel_rfl
  have i3 : ∀ w, (Instr.index 107 (.agg #[.complex .f64 4607182418800017408 0, .complex .f64 0 4607182418800017408, .complex .f64 13830554455654793216 0, .complex .f64 0 13830554455654793216]) (.int .i64 3)).run Try.prog w = .ok (.complex .f64 0 13830554455654793216) w := fun _ => by kernel_rfl
  have hr : k % 4 = 0 ∨ k % 4 = 1 ∨ k % 4 = 2 ∨ k % 4 = 3 := by omega
  have hmask := mask3 k
  rcases hr with hr | hr | hr | hr
  · obtain ⟨re, im, hmul, hre, him⟩ := cmul_is ha hb oneIs zeroF (by omega) (by omega) (by omega) (by omega) (by omega) (by omega) (by omega) (by omega) (by omega) (by omega)
    have hm2 := run_mul hmul
    rw [hr] at hmask
    have hp := plain_any re im (n) (m) w (by simpa using hre) (by simpa using him) (by omega) (by omega)
    have hw1 := within_yes a b _ n m _ w ha hb far52Is (by omega) (by omega) hn hm
    have e1 : tRe n m k = n := by unfold tRe; rw [if_pos hr]
    have e2 : tIm n m k = m := by unfold tIm; rw [if_pos hr]
    have HP := Lib.hid hp
    have HW := Lib.hid hw1
    have E1 := Lib.hid e1
    have E2 := Lib.hid e2
    clear hmul hre him hp hw1 e1 e2 hr ha hb hn hm i1 i2 i3
    go_enter Try.func46, Try.ntmps46
    go_wp2_with (first | (go_at_call 58; refine HW.out.mono ?_; rintro e w' ⟨rfl, rfl⟩) | (go_at_call 59; refine HP.out.mono ?_; rintro e w' ⟨rfl, rfl⟩))
    go_ret
    exact ⟨by rw [E1.out, E2.out]; rfl, rfl⟩
  · obtain ⟨re, im, hmul, hre, him⟩ := cmul_is ha hb zeroF oneIs (by omega) (by omega) (by omega) (by omega) (by omega) (by omega) (by omega) (by omega) (by omega) (by omega)
    have hm2 := run_mul hmul
    rw [hr] at hmask
    have hp := plain_any re im (-m) (n) w (by simpa using hre) (by simpa using him) (by omega) (by omega)
    have hw1 := within_yes a b _ n m _ w ha hb far52Is (by omega) (by omega) hn hm
    have e1 : tRe n m k = -m := by unfold tRe; rw [if_neg (by omega), if_pos hr]
    have e2 : tIm n m k = n := by unfold tIm; rw [if_neg (by omega), if_pos hr]
    have HP := Lib.hid hp
    have HW := Lib.hid hw1
    have E1 := Lib.hid e1
    have E2 := Lib.hid e2
    clear hmul hre him hp hw1 e1 e2 hr ha hb hn hm i0 i2 i3
    go_enter Try.func46, Try.ntmps46
    go_wp2_with (first | (go_at_call 58; refine HW.out.mono ?_; rintro e w' ⟨rfl, rfl⟩) | (go_at_call 59; refine HP.out.mono ?_; rintro e w' ⟨rfl, rfl⟩))
    go_ret
    exact ⟨by rw [E1.out, E2.out]; rfl, rfl⟩
  · obtain ⟨re, im, hmul, hre, him⟩ := cmul_is ha hb moneIs zeroF (by omega) (by omega) (by omega) (by omega) (by omega) (by omega) (by omega) (by omega) (by omega) (by omega)
    have hm2 := run_mul hmul
    rw [hr] at hmask
    have hp := plain_any re im (-n) (-m) w (by simpa using hre) (by simpa using him) (by omega) (by omega)
    have hw1 := within_yes a b _ n m _ w ha hb far52Is (by omega) (by omega) hn hm
    have e1 : tRe n m k = -n := by unfold tRe; rw [if_neg (by omega), if_neg (by omega), if_pos hr]
    have e2 : tIm n m k = -m := by unfold tIm; rw [if_neg (by omega), if_neg (by omega), if_pos hr]
    have HP := Lib.hid hp
    have HW := Lib.hid hw1
    have E1 := Lib.hid e1
    have E2 := Lib.hid e2
    clear hmul hre him hp hw1 e1 e2 hr ha hb hn hm i0 i1 i3
    go_enter Try.func46, Try.ntmps46
    go_wp2_with (first | (go_at_call 58; refine HW.out.mono ?_; rintro e w' ⟨rfl, rfl⟩) | (go_at_call 59; refine HP.out.mono ?_; rintro e w' ⟨rfl, rfl⟩))
    go_ret
    exact ⟨by rw [E1.out, E2.out]; rfl, rfl⟩
  · obtain ⟨re, im, hmul, hre, him⟩ := cmul_is ha hb zeroF moneIs (by omega) (by omega) (by omega) (by omega) (by omega) (by omega) (by omega) (by omega) (by omega) (by omega)
    have hm2 := run_mul hmul
    rw [hr] at hmask
    have hp := plain_any re im (m) (-n) w (by simpa using hre) (by simpa using him) (by omega) (by omega)
    have hw1 := within_yes a b _ n m _ w ha hb far52Is (by omega) (by omega) hn hm
    have e1 : tRe n m k = m := by unfold tRe; rw [if_neg (by omega), if_neg (by omega), if_neg (by omega)]
    have e2 : tIm n m k = -n := by unfold tIm; rw [if_neg (by omega), if_neg (by omega), if_neg (by omega)]
    have HP := Lib.hid hp
    have HW := Lib.hid hw1
    have E1 := Lib.hid e1
    have E2 := Lib.hid e2
    clear hmul hre him hp hw1 e1 e2 hr ha hb hn hm i0 i1 i2
    go_enter Try.func46, Try.ntmps46
    go_wp2_with (first | (go_at_call 58; refine HW.out.mono ?_; rintro e w' ⟨rfl, rfl⟩) | (go_at_call 59; refine HP.out.mono ?_; rintro e w' ⟨rfl, rfl⟩))
    go_ret
    exact ⟨by rw [E1.out, E2.out]; rfl, rfl⟩

end Go.Proofs.Ytkpngkdkkcadfaa
