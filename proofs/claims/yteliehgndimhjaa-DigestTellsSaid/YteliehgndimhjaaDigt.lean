/- What Change of package digest does, Of of a list that is no page, and the test told of the statements of layer 3. -/
import Derived.Test.YteliehgndimhjaaDigp
import Derived.Test.YteliehgndimhjaaGpa
import Derived.Test.YteliehgndimhjaaGtu
import Derived.Test.YteliehgndimhjaaGcl
namespace Go.Proofs.Yteliehgndimhjaa
open Go.RowKit Flo

set_option maxHeartbeats 1000000 in
theorem change_any (x y : Int) (k : Nat) (old now : Nat) (w : World) (hk : k < 512) (ho : old < 18446744073709551616) (hn : now < 18446744073709551616)
    (hx : -1125899906842624 ≤ x ∧ x ≤ 1125899906842624) (hy : -1125899906842624 ≤ y ∧ y ≤ 1125899906842624) :
    Calls Try.prog 14 #[.complex .f64 (F x) (F y), .int .i64 k, .int .u64 old, .int .u64 now] w fun e w' =>
      e = .returned (.tuple #[.complex .f64 (F (x + tRe (lo now - lo old) (hi now - hi old) k)) (F (y + tIm (lo now - lo old) (hi now - hi old) k)), .int .i64 0]) ∧ w = w' := by
  have l1 := lo_bd now
  have l2 := lo_bd old
  have h1 := hi_bd now hn
  have h2 := hi_bd old ho
  have HP := Lib.hid (fun W => parts_any _ _ x y W (F_is _) (F_is _) (by omega) (by omega))
  have HW1 := Lib.hid (fun W => word_any now hn W)
  have HW2 := Lib.hid (fun W => word_any old ho W)
  have s1 := sub_F (n := lo now) (m := lo old) (by omega) (by omega) (by omega)
  have s2 := sub_F (n := hi now) (m := hi old) (by omega) (by omega) (by omega)
  have hs : cSumBits .sub .f64 (F (lo now)) (F (hi now)) (F (lo old)) (F (hi old)) = some (F (lo now - lo old), F (hi now - hi old)) := by
    unfold cSumBits; rw [s1, s2]; rfl
  have hsub := run_sub hs
  have HT := Lib.hid (fun W => turn_any _ _ (lo now - lo old) (hi now - hi old) k W (F_is _) (F_is _) (by omega) (by omega))
  have bt := t_abs (lo now - lo old) (hi now - hi old) k 4294967295 (by omega) (by omega)
  have HA := Lib.hid (fun W => add_any (F x) (F y) _ _ x y (tRe (lo now - lo old) (hi now - hi old) k) (tIm (lo now - lo old) (hi now - hi old) k) W (F_is _) (F_is _) (F_is _) (F_is _) (by omega) (by omega) (by omega) (by omega) (by omega) (by omega))
  clear s1 s2 hs bt l1 l2 h1 h2 hx hy ho hn
  generalize tRe (lo now - lo old) (hi now - hi old) k = p at *
  generalize tIm (lo now - lo old) (hi now - hi old) k = q at *
  generalize lo now - lo old = d1 at *
  generalize hi now - hi old = d2 at *
  go_enter Try.func14, Try.ntmps14
  go_wp2_with fail
  refine (HP.out _).mono ?_; rintro e w' ⟨rfl, rfl⟩
  go_wp2_with fail
  refine (HW1.out _).mono ?_; rintro e w' ⟨rfl, rfl⟩
  go_wp2_with fail
  refine (HW2.out _).mono ?_; rintro e w' ⟨rfl, rfl⟩
  go_wp2_with fail
  refine (HT.out _).mono ?_; rintro e w' ⟨rfl, rfl⟩
  go_wp2_with fail
  refine (HA.out _).mono ?_; rintro e w' ⟨rfl, rfl⟩
  go_wp2
  go_ret2
  exact ⟨rfl, rfl⟩

set_option maxHeartbeats 1000000 in
theorem of_short (A : Option Addr) (n cap : Nat) (w : World) (hn : n < 4096) :
    Calls Try.prog 8 #[.slice A n cap] w fun e w' => e = .returned (.tuple #[.complex .f64 0 0, .int .i64 1]) ∧ w = w' := by
  have h : ((n : Int) != 4096) = true := by rw [bne_iff_ne]; omega
  go_enter Try.func8, Try.ntmps8
  go_wp2
  go_ret2
  exact ⟨rfl, rfl⟩

theorem zbytes : Bytes (fun _ => 0) := fun _ => Nat.zero_lt_succ _

/-- The page of told. -/
def g5 : Nat → Nat := upd (fun _ => 0) 8 5

theorem S_zero : SRe (fun _ => 0) 512 = 0 ∧ SIm (fun _ => 0) 512 = 0 := by decide +kernel
theorem S_five : SRe g5 512 = 0 ∧ SIm g5 512 = 5 := by decide +kernel

theorem d5 : F 5 = 4617315517961601024 := by decide +kernel
theorem dm1 : F (-1) = 13830554455654793216 := by decide +kernel
theorem d1 : F 1 = 4607182418800017408 := by decide +kernel
theorem d7 : F 7 = 4619567317775286272 := by decide +kernel

set_option maxHeartbeats 2000000 in
set_option maxRecDepth 100000 in
theorem told_any (w : World) : Calls Try.prog 10 #[] w fun e w' => e = .returned (.bool true) ∧ Below w.heap.size w w' := by
  have hmk := make_page
  have h1 := Lib.hid (fun (b : Nat) W (h : Blk W b 5 (pc fun _ => 0)) => of_page b 4096 (fun _ => 0) W (PageAt.of_blk h) zbytes)
  rw [S_zero.1, S_zero.2, F_zero] at h1
  have h2 := Lib.hid (fun (b : Nat) W (h : Blk W b 5 (pc g5)) => of_page b 4096 g5 W (PageAt.of_blk h) (upd_bytes zbytes 8 5 (by decide)))
  rw [S_five.1, S_five.2, F_zero, d5] at h2
  have h3 := Lib.hid (fun W => of_short none 0 0 W (by decide))
  have h4 := Lib.hid (fun W => change_any 0 0 2 0 4294967296 W (by decide) (by decide) (by decide) (by decide) (by decide))
  rw [show (0 : Int) + tRe (lo 4294967296 - lo 0) (hi 4294967296 - hi 0) ((2 : Nat) : Int) = 0 from by decide +kernel, show (0 : Int) + tIm (lo 4294967296 - lo 0) (hi 4294967296 - hi 0) ((2 : Nat) : Int) = -1 from by decide +kernel, F_zero, dm1] at h4
  have h5 := Lib.hid (fun W => word_any 4294967303 (by decide) W)
  rw [show lo 4294967303 = 7 from by decide +kernel, show hi 4294967303 = 1 from by decide +kernel, d7, d1] at h5
  have o0 : FloatKind.f64.format.order 0 0 = some .eq := ord_eq zeroF zeroF (by decide) (by decide) rfl
  have o5 : FloatKind.f64.format.order 4617315517961601024 4617315517961601024 = some .eq := by decide +kernel
  have o1 : FloatKind.f64.format.order 4607182418800017408 4607182418800017408 = some .eq := by decide +kernel
  have om1 : FloatKind.f64.format.order 13830554455654793216 13830554455654793216 = some .eq := by decide +kernel
  have o7 : FloatKind.f64.format.order 4619567317775286272 4619567317775286272 = some .eq := by decide +kernel
  have B0 := Lib.hid (Blk.new w 5 (pc fun _ => 0))
  have b1 : Blk (w.alloc (.cells ((pc fun _ => 0).setIfInBounds 8 (.int .u8 5)) 5)) w.heap.size 5 (pc g5) := by
    rw [show (Value.int .u8 5) = .int .u8 ((5 : Nat) : Int) from rfl, pc_set]
    exact Blk.new _ _ _
  have B1 := Lib.hid b1
  clear b1
  have hc := (PageAt.of_blk (Blk.new w 5 (pc fun _ => 0))) 8 (by decide)
  have hf := (Blk.new w 5 (pc fun _ => 0)).frozen 8
  go_enter Try.func10, Try.ntmps10
  go_wp2_with fail
  refine (h1.out _ _ B0.out).mono ?_; rintro e w' ⟨rfl, rfl⟩
  go_wp2_with fail
  refine (h2.out _ _ B1.out).mono ?_; rintro e w' ⟨rfl, rfl⟩
  go_wp2_with fail
  refine (h3.out _).mono ?_; rintro e w' ⟨rfl, rfl⟩
  go_wp2_with fail
  refine (h4.out _).mono ?_; rintro e w' ⟨rfl, rfl⟩
  go_wp2_with fail
  refine (h5.out _).mono ?_; rintro e w' ⟨rfl, rfl⟩
  go_wp2
  go_ret
  exact ⟨rfl, (Below.refl _ _).alloc (Nat.le_refl _) _⟩

end Go.Proofs.Yteliehgndimhjaa
