/- What the functions of package digest and of its reference do with a page that lies in memory: contracts of each. -/
import Derived.Test.YtkpngkdkkcadfaaGad
import Derived.Test.YtkpngkdkkcadfaaGay0
import Derived.IntWalk
namespace Go.Proofs.Ytkpngkdkkcadfaa
open Go.RowKit Flo

/-- A page in memory: block 'b' holds the bytes 'g'. -/
def PageAt (w : World) (b : Nat) (g : Nat → Nat) : Prop := ∀ j, j < 4096 → w.cell? ⟨b, j, none⟩ = some (.int .u8 (g j : Int))

/-- All are bytes. -/
def Bytes (g : Nat → Nat) : Prop := ∀ j, g j < 256

/-- The lowest bytes of a word. -/
def wl (g : Nat → Nat) (k : Nat) : Nat → Nat
  | 0 => 0
  | i + 1 => wl g k i + g (8 * k + i) * 2 ^ (8 * i)

/-- The highest bytes of a word. -/
def wr (g : Nat → Nat) (k : Nat) : Nat → Nat
  | 0 => 0
  | t + 1 => wr g k t * 256 + g (8 * k + (7 - t))

theorem wl_lt (g : Nat → Nat) (hg : Bytes g) (k i : Nat) : wl g k i < 2 ^ (8 * i) := by
  induction i with
  | zero => exact Nat.zero_lt_one
  | succ i ih =>
    have h := hg (8 * k + i)
    have e : 2 ^ (8 * (i + 1)) = 256 * 2 ^ (8 * i) := by rw [show 8 * (i + 1) = 8 + 8 * i from by omega, Nat.pow_add]
    have h2 : g (8 * k + i) * 2 ^ (8 * i) ≤ 255 * 2 ^ (8 * i) := Nat.mul_le_mul_right _ (by omega)
    show wl g k i + g (8 * k + i) * 2 ^ (8 * i) < _
    omega

theorem wr_lt (g : Nat → Nat) (hg : Bytes g) (k t : Nat) : wr g k t < 2 ^ (8 * t) := by
  induction t with
  | zero => exact Nat.zero_lt_one
  | succ t ih =>
    have h := hg (8 * k + (7 - t))
    have e : 2 ^ (8 * (t + 1)) = 2 ^ (8 * t) * 256 := by rw [show 8 * (t + 1) = 8 * t + 8 from by omega, Nat.pow_add]
    show wr g k t * 256 + g (8 * k + (7 - t)) < _
    omega

theorem wr_eq (g : Nat → Nat) (k : Nat) : wr g k 8 = wl g k 8 := by
  simp only [wr, wl, Nat.sub_zero, Nat.reduceSub, Nat.reduceMul, Nat.reducePow]
  omega

/-- A word. -/
def wv (g : Nat → Nat) (k : Nat) : Nat := wl g k 8

theorem wv_lt (g : Nat → Nat) (hg : Bytes g) (k : Nat) : wv g k < 18446744073709551616 := wl_lt g hg k 8

/-- A byte is put in above the lowest ones. -/
theorem or_step (a b i : Nat) (hi : i < 8) (ha : a < 2 ^ (8 * i)) (hb : b < 256) :
    bits .or .u64 (a : Int) ((b * 2 ^ (8 * i) : Nat) : Int) = ((a + b * 2 ^ (8 * i) : Nat) : Int) := by
  have hp : (2 : Nat) ^ (8 * i) ≤ 2 ^ 56 := Nat.pow_le_pow_right (by omega) (by omega)
  have hb2 : b * 2 ^ (8 * i) ≤ 255 * 2 ^ (8 * i) := Nat.mul_le_mul_right _ (by omega)
  show IntKind.u64.wrap ((BitVec.ofInt 64 a ||| BitVec.ofInt 64 ((b * 2 ^ (8 * i) : Nat) : Int)).toNat : Int) = _
  have e1 : (BitVec.ofInt 64 (a : Int)).toNat = a := by
    rw [BitVec.toNat_ofInt]; omega
  have e2 : (BitVec.ofInt 64 ((b * 2 ^ (8 * i) : Nat) : Int)).toNat = b * 2 ^ (8 * i) := by
    rw [BitVec.toNat_ofInt]; omega
  have e3 : a ||| b * 2 ^ (8 * i) = a + b * 2 ^ (8 * i) := by
    have h := Nat.two_pow_add_eq_or_of_lt ha b
    rw [Nat.or_comm, Nat.mul_comm b, ← h, Nat.add_comm]
  rw [BitVec.toNat_or, e1, e2, e3]
  exact IntWalk.u64_in _ (by omega)

theorem or_step' (a b i : Nat) (hi : i < 8) (ha : a < 2 ^ (8 * i)) (hb : b < 256) :
    bits .or .u64 (a : Int) (IntKind.u64.wrap ((b : Int) * 2 ^ (8 * i))) = ((a + b * 2 ^ (8 * i) : Nat) : Int) := by
  have hp : (2 : Nat) ^ (8 * i) ≤ 2 ^ 56 := Nat.pow_le_pow_right (by omega) (by omega)
  have hb2 : b * 2 ^ (8 * i) ≤ 255 * 2 ^ (8 * i) := Nat.mul_le_mul_right _ (by omega)
  have e : (b : Int) * 2 ^ (8 * i) = ((b * 2 ^ (8 * i) : Nat) : Int) := by simp
  rw [e, IntWalk.u64_in _ (by omega)]
  exact or_step a b i hi ha hb

/-- The two parts of a word. -/
def lo (w : Nat) : Int := (w : Int) % 4294967296
def hi (w : Nat) : Int := (w : Int) / 4294967296

theorem lo_bd (w : Nat) : 0 ≤ lo w ∧ lo w ≤ 4294967295 := by unfold lo; omega
theorem hi_bd (w : Nat) (h : w < 18446744073709551616) : 0 ≤ hi w ∧ hi w ≤ 4294967295 := by unfold hi; omega

/-- The sum of the first words, each turned by its place. -/
def SRe (g : Nat → Nat) : Nat → Int
  | 0 => 0
  | k + 1 => SRe g k + tRe (lo (wv g k)) (hi (wv g k)) k
def SIm (g : Nat → Nat) : Nat → Int
  | 0 => 0
  | k + 1 => SIm g k + tIm (lo (wv g k)) (hi (wv g k)) k

theorem t_bd (n m k A : Int) (hn : 0 ≤ n ∧ n ≤ A) (hm : 0 ≤ m ∧ m ≤ A) : (-A ≤ tRe n m k ∧ tRe n m k ≤ A) ∧ -A ≤ tIm n m k ∧ tIm n m k ≤ A := by
  unfold tRe tIm
  by_cases h0 : k % 4 = 0
  · simp only [h0, if_true]; omega
  by_cases h1 : k % 4 = 1
  · simp only [h1, if_true]; simp; omega
  by_cases h2 : k % 4 = 2
  · simp only [h2, if_true]; simp; omega
  · simp only [h0, h1, h2, if_false]; omega

theorem S_bd (g : Nat → Nat) (hg : Bytes g) (k : Nat) : (-(4294967295 * (k : Int)) ≤ SRe g k ∧ SRe g k ≤ 4294967295 * k) ∧ -(4294967295 * (k : Int)) ≤ SIm g k ∧ SIm g k ≤ 4294967295 * k := by
  induction k with
  | zero => simp [SRe, SIm]
  | succ k ih =>
    have h := t_bd (lo (wv g k)) (hi (wv g k)) k 4294967295 (lo_bd _) (hi_bd _ (wv_lt g hg k))
    simp only [SRe, SIm]
    omega

theorem un24 : (Try.prog.underlying 22).isSome = true := by kernel_rfl
theorem un49 : (Try.prog.underlying 108).isSome = true := by kernel_rfl

theorem conv_u32 (n : Int) (w : World) : (convert 108 105 (.int .u32 n)).run Try.prog w = .ok (.float .f64 (F n)) w :=
  run_convert_int_float w 108 105 .u32 .f64 n un49 un39'
theorem conv_u64 (n : Int) (w : World) : (convert 22 105 (.int .u64 n)).run Try.prog w = .ok (.float .f64 (F n)) w :=
  run_convert_int_float w 22 105 .u64 .f64 n un24 un39'

set_option maxHeartbeats 400000 in
theorem word_any (n : Nat) (h : n < 18446744073709551616) (w : World) :
    Calls Try.prog 47 #[.int .u64 n] w fun e w' => e = .returned (.complex .f64 (F (lo n)) (F (hi n))) ∧ w = w' := by
  have k1 := conv_u32
  have k2 := conv_u64
  have b : (n : Int) ≤ 18446744073709551615 := by omega
  go_enter Try.func47, Try.ntmps47
  go_wp2
  go_ret
  exact ⟨ret_cx rfl rfl, rfl⟩

set_option maxHeartbeats 1000000 in
set_option maxRecDepth 100000 in
theorem of_page (b cap : Nat) (g : Nat → Nat) (w : World) (hp : PageAt w b g) (hg : Bytes g) :
    Calls Try.prog 29 #[.slice (some ⟨b, 0, none⟩) 4096 cap] w fun e w' => e = .returned (.tuple #[.complex .f64 (F (SRe g 512)) (F (SIm g 512)), .int .i64 0]) ∧ w = w' := by
  have HP := Lib.hid hp
  clear hp
  go_enter Try.func29, Try.ntmps29
  go_wp2
  go_loop [4, 11] (fun s i => ∃ k : Nat, k ≤ 512 ∧ i = .int .i64 k ∧ s = .complex .f64 (F (SRe g k)) (F (SIm g k))) (fun _ i => 512 - (intOf i).toNat)
  case atStart => exact ⟨0, by omega, rfl, by rw [show SRe g 0 = 0 from rfl, show SIm g 0 = 0 from rfl, F_zero]⟩
  case round =>
    obtain ⟨k, hk, rfl, rfl⟩ := hrel
    by_cases hlt : k < 512
    · have hw := Lib.hid (wv_lt g hg k)
      have hS := S_bd g hg k
      have ht := t_bd (lo (wv g k)) (hi (wv g k)) k 4294967295 (lo_bd _) (hi_bd _ (wv_lt g hg k))
      have hS1 := Lib.hid (add_F (n := SRe g k) (m := tRe (lo (wv g k)) (hi (wv g k)) k) (by omega) (by omega) (by omega))
      have hS2 := Lib.hid (add_F (n := SIm g k) (m := tIm (lo (wv g k)) (hi (wv g k)) k) (by omega) (by omega) (by omega))
      clear hS ht
      go_wp2
      go_loop [6, 14] (fun v i => ∃ j : Nat, j ≤ 8 ∧ i = .int .i64 j ∧ v = .int .u64 (wl g k j)) (fun _ i => 8 - (intOf i).toNat)
      case atStart => exact ⟨0, by omega, rfl, rfl⟩
      case round =>
        obtain ⟨j, hj, rfl, rfl⟩ := hrel
        by_cases hlt2 : j < 8
        · have hcell := HP.out (8 * k + j) (by omega)
          have hb := hg (8 * k + j)
          go_wp2
          go_round
          case rel => exact ⟨j + 1, by omega, by go_num, by rw [or_step' _ _ _ hlt2 (wl_lt g hg k j) hb]; rfl⟩
          case measure => simp [intOf]; omega
        · obtain rfl : j = 8 := by omega
          have HW := Lib.hid (word_any (wv g k) hw.out)
          have hl := lo_bd (wv g k)
          have hh := hi_bd (wv g k) hw.out
          have HT := Lib.hid (fun W => turn_any _ _ (lo (wv g k)) (hi (wv g k)) k W (F_is _) (F_is _) (by omega) (by omega))
          have ha : cSumBits .add .f64 (F (SRe g k)) (F (SIm g k)) (F (tRe (lo (wv g k)) (hi (wv g k)) k)) (F (tIm (lo (wv g k)) (hi (wv g k)) k)) = some (F (SRe g (k + 1)), F (SIm g (k + 1))) := by
            unfold cSumBits
            rw [hS1.out, hS2.out]; rfl
          have hadd := run_add ha
          have ewl : wl g k 8 = wv g k := rfl
          rw [ewl]
          clear ewl ha hl hh
          go_wp2_with fail
          refine (HW.out _).mono ?_; rintro e w' ⟨rfl, rfl⟩
          go_wp2_with fail
          refine (HT.out _).mono ?_; rintro e w' ⟨rfl, rfl⟩
          go_wp2
          go_round
          case rel => exact ⟨k + 1, by omega, by go_num, rfl⟩
          case measure => simp [intOf]; omega
    · obtain rfl : k = 512 := by omega
      go_wp2
      go_ret2
      exact ⟨rfl, rfl⟩


set_option maxHeartbeats 1000000 in
theorem refword_any (b cap : Nat) (g : Nat → Nat) (k : Nat) (w : World) (hp : PageAt w b g) (hg : Bytes g) (hk : k < 512) :
    Calls Try.prog 53 #[.slice (some ⟨b, 0, none⟩) 4096 cap, .int .i64 k] w fun e w' => e = .returned (.int .u64 (wv g k)) ∧ w = w' := by
  have HP := Lib.hid hp
  clear hp
  go_enter Try.func53, Try.ntmps53
  go_wp2
  go_loop [5, 6] (fun v i => ∃ t : Nat, t ≤ 8 ∧ i = .int .i64 (7 - (t : Int)) ∧ v = .int .u64 (wr g k t)) (fun _ i => (intOf i + 1).toNat)
  case atStart => exact ⟨0, by omega, rfl, rfl⟩
  case round =>
    obtain ⟨t, ht, rfl, rfl⟩ := hrel
    by_cases hlt : t < 8
    · have hcell := HP.out (8 * k + (7 - t)) (by omega)
      have hb := hg (8 * k + (7 - t))
      have hr := wr_lt g hg k t
      have hr2 : (2 : Nat) ^ (8 * t) ≤ 2 ^ 56 := Nat.pow_le_pow_right (by omega) (by omega)
      have hr3 : (wr g k t : Int) ≤ 72057594037927935 := by omega
      have e1 : (8 * (k : Int) + (7 - (t : Int))).toNat = 8 * k + (7 - t) := by omega
      clear hr hr2
      go_wp2
      go_round
      case rel => exact ⟨t + 1, by omega, by rw [show (7 - (t : Int) - 1) = 7 - ((t + 1 : Nat) : Int) from by omega], congrArg (Value.int .u64) (by show _ = ((wr g k t * 256 + g (8 * k + (7 - t)) : Nat) : Int); simp)⟩
      case measure => simp [intOf]; omega
    · obtain rfl : t = 8 := by omega
      go_wp2
      go_ret
      exact ⟨by rw [wr_eq]; rfl, rfl⟩

set_option maxHeartbeats 1000000 in
theorem refparts_any (w0 : Nat) (k : Nat) (w : World) (h : w0 < 18446744073709551616) (hk : k < 512) :
    Calls Try.prog 52 #[.int .u64 w0, .int .i64 k] w fun e w' => e = .returned (.tuple #[.int .i64 (tRe (lo w0) (hi w0) k), .int .i64 (tIm (lo w0) (hi w0) k)]) ∧ w = w' := by
  have hb : (w0 : Int) ≤ 18446744073709551615 := by omega
  have hr : (k : Int) % 4 = 0 ∨ (k : Int) % 4 = 1 ∨ (k : Int) % 4 = 2 ∨ (k : Int) % 4 = 3 := by omega
  rcases hr with hr | hr | hr | hr
  · have e1 : tRe (lo w0) (hi w0) k = lo w0 := by unfold tRe; rw [if_pos hr]
    have e2 : tIm (lo w0) (hi w0) k = hi w0 := by unfold tIm; rw [if_pos hr]
    have E1 := Lib.hid e1
    have E2 := Lib.hid e2
    have c1 : ((k : Int) % 4 == 1) = false := by rw [hr]; rfl
    have c2 : ((k : Int) % 4 == 2) = false := by rw [hr]; rfl
    have c3 : ((k : Int) % 4 == 3) = false := by rw [hr]; rfl
    clear e1 e2 hr
    go_enter Try.func52, Try.ntmps52
    go_wp2
    go_ret2
    exact ⟨by rw [E1.out, E2.out]; rfl, rfl⟩
  · have e1 : tRe (lo w0) (hi w0) k = -hi w0 := by unfold tRe; rw [if_neg (by omega), if_pos hr]
    have e2 : tIm (lo w0) (hi w0) k = lo w0 := by unfold tIm; rw [if_neg (by omega), if_pos hr]
    have E1 := Lib.hid e1
    have E2 := Lib.hid e2
    have c1 : ((k : Int) % 4 == 1) = true := by rw [hr]; rfl
    have c2 : ((k : Int) % 4 == 2) = false := by rw [hr]; rfl
    have c3 : ((k : Int) % 4 == 3) = false := by rw [hr]; rfl
    clear e1 e2 hr
    go_enter Try.func52, Try.ntmps52
    go_wp2
    go_ret2
    exact ⟨by rw [E1.out, E2.out]; rfl, rfl⟩
  · have e1 : tRe (lo w0) (hi w0) k = -lo w0 := by unfold tRe; rw [if_neg (by omega), if_neg (by omega), if_pos hr]
    have e2 : tIm (lo w0) (hi w0) k = -hi w0 := by unfold tIm; rw [if_neg (by omega), if_neg (by omega), if_pos hr]
    have E1 := Lib.hid e1
    have E2 := Lib.hid e2
    have c1 : ((k : Int) % 4 == 1) = false := by rw [hr]; rfl
    have c2 : ((k : Int) % 4 == 2) = true := by rw [hr]; rfl
    have c3 : ((k : Int) % 4 == 3) = false := by rw [hr]; rfl
    clear e1 e2 hr
    go_enter Try.func52, Try.ntmps52
    go_wp2
    go_ret2
    exact ⟨by rw [E1.out, E2.out]; rfl, rfl⟩
  · have e1 : tRe (lo w0) (hi w0) k = hi w0 := by unfold tRe; rw [if_neg (by omega), if_neg (by omega), if_neg (by omega)]
    have e2 : tIm (lo w0) (hi w0) k = -lo w0 := by unfold tIm; rw [if_neg (by omega), if_neg (by omega), if_neg (by omega)]
    have E1 := Lib.hid e1
    have E2 := Lib.hid e2
    have c1 : ((k : Int) % 4 == 1) = false := by rw [hr]; rfl
    have c2 : ((k : Int) % 4 == 2) = false := by rw [hr]; rfl
    have c3 : ((k : Int) % 4 == 3) = true := by rw [hr]; rfl
    clear e1 e2 hr
    go_enter Try.func52, Try.ntmps52
    go_wp2
    go_ret2
    exact ⟨by rw [E1.out, E2.out]; rfl, rfl⟩

set_option maxHeartbeats 1000000 in
set_option maxRecDepth 100000 in
theorem refof_page (b cap : Nat) (g : Nat → Nat) (w : World) (hp : PageAt w b g) (hg : Bytes g) :
    Calls Try.prog 40 #[.slice (some ⟨b, 0, none⟩) 4096 cap] w fun e w' => e = .returned (.tuple #[.complex .f64 (F (SRe g 512)) (F (SIm g 512)), .int .i64 0]) ∧ w = w' := by
  have HM := Lib.hid (fun W => make_any (SRe g 512) (SIm g 512) W)
  go_enter Try.func40, Try.ntmps40
  go_wp2
  go_loop [4, 5, 6] (fun x y i => ∃ k : Nat, k ≤ 512 ∧ i = .int .i64 k ∧ x = .int .i64 (SRe g k) ∧ y = .int .i64 (SIm g k)) (fun _ _ i => 512 - (intOf i).toNat)
  case atStart => exact ⟨0, by omega, rfl, rfl, rfl⟩
  case round =>
    obtain ⟨k, hk, rfl, rfl, rfl⟩ := hrel
    by_cases hlt : k < 512
    · have HW := Lib.hid (fun W (h : PageAt W b g) => refword_any b cap g k W h hg hlt)
      have HP := Lib.hid (fun W => refparts_any (wv g k) k W (wv_lt g hg k) hlt)
      have hS := S_bd g hg k
      have ht := t_bd (lo (wv g k)) (hi (wv g k)) k 4294967295 (lo_bd _) (hi_bd _ (wv_lt g hg k))
      have e1 := Lib.hid (show SRe g (k + 1) = SRe g k + tRe (lo (wv g k)) (hi (wv g k)) k from rfl)
      have e2 := Lib.hid (show SIm g (k + 1) = SIm g k + tIm (lo (wv g k)) (hi (wv g k)) k from rfl)
      generalize tRe (lo (wv g k)) (hi (wv g k)) k = p at *
      generalize tIm (lo (wv g k)) (hi (wv g k)) k = q at *
      generalize SRe g k = x at *
      generalize SIm g k = y at *
      go_wp2_with fail
      refine (HW.out _ hp).mono ?_; rintro e w' ⟨rfl, rfl⟩
      go_wp2_with fail
      refine (HP.out _).mono ?_; rintro e w' ⟨rfl, rfl⟩
      go_wp2
      go_round
      case rel => exact ⟨k + 1, by omega, by go_num, by rw [e1.out], by rw [e2.out]⟩
      case measure => simp [intOf]; omega
    · obtain rfl : k = 512 := by omega
      go_wp2_with fail
      refine (HM.out _).mono ?_; rintro e w' ⟨rfl, rfl⟩
      go_wp2
      go_ret2
      exact ⟨rfl, rfl⟩

end Go.Proofs.Ytkpngkdkkcadfaa
