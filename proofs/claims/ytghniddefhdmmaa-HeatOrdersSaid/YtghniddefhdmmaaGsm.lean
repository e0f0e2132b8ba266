/- What the functions small and Norm of package gauss do, called with whole numbers of limited size: contracts of each. -/
import Derived.Test.YtghniddefhdmmaaGco
namespace Go.Proofs.Ytghniddefhdmmaa
open Go.RowKit Flo

/-- A cell that holds a small whole number. -/
def SmallAt (w : World) (p : Addr) : Prop := ∃ (a b : Nat) (n m : Int), w.cell? p = some (.complex .f64 a b) ∧ Is a n ∧ Is b m ∧ n.natAbs ≤ 16777216 ∧ m.natAbs ≤ 16777216

set_option maxHeartbeats 1000000 in
theorem small_any (B L cap : Nat) (w : World) (hL : L ≤ 2) (hc : ∀ k, k < L → SmallAt w ⟨B, k, none⟩) :
    Calls Try.prog 32 #[.slice (some ⟨B, 0, none⟩) L cap] w fun e w' => e = .returned (.int .i64 0) ∧ w = w' := by
  have HC := Lib.hid hc
  clear hc
  go_enter Try.func32, Try.ntmps32
  go_wp2
  go_loop [3, 8] (fun e i => e = .int .i64 0 ∧ ∃ k : Nat, k ≤ L ∧ i = .int .i64 k) (fun _ i => L - (intOf i).toNat)
  case atStart => exact ⟨rfl, 0, by omega, rfl⟩
  case round =>
    obtain ⟨rfl, k, hk, rfl⟩ := hrel
    by_cases hlt : k < L
    · obtain ⟨a, b, n, m, hcell, ha, hb, hn, hm⟩ := HC.out k hlt
      have hw1 := within_yes a b _ n m _ w ha hb far52Is (by omega) (by omega) (by omega) (by omega)
      have hw2 := within_yes a b _ n m _ w ha hb far24Is (by omega) (by omega) (by omega) (by omega)
      have HW1 := Lib.hid hw1
      have HW2 := Lib.hid hw2
      clear hw1 hw2 ha hb hn hm
      go_wp2_with fail
      refine HW1.out.mono ?_; rintro e w' ⟨rfl, rfl⟩
      go_wp2_with fail
      refine HW2.out.mono ?_; rintro e w' ⟨rfl, rfl⟩
      go_wp2
      go_round
      case rel => exact ⟨rfl, k + 1, by omega, by go_num⟩
      case measure => simp [intOf]; omega
    · go_wp2
      go_ret
      exact ⟨rfl, rfl⟩

theorem small_one (a b : Nat) (n m : Int) (T : TypeId) (w : World) (ha : Is a n) (hb : Is b m) (hn : n.natAbs ≤ 16777216) (hm : m.natAbs ≤ 16777216) :
    Calls Try.prog 32 #[.slice (some ⟨w.heap.size, 0, none⟩) 1 1] (w.alloc (.cells #[.complex .f64 a b] T)) fun e w' => e = .returned (.int .i64 0) ∧ (w.alloc (.cells #[.complex .f64 a b] T)) = w' :=
  small_any w.heap.size 1 1 _ (by omega) fun k hk => by
    obtain rfl : k = 0 := by omega
    exact ⟨a, b, n, m, World.cell?_alloc_at _ _ _ _ rfl, ha, hb, hn, hm⟩

theorem small_two (a b c d : Nat) (n m u v : Int) (T : TypeId) (w : World) (ha : Is a n) (hb : Is b m) (hc : Is c u) (hd : Is d v) (hn : n.natAbs ≤ 16777216) (hm : m.natAbs ≤ 16777216) (hu : u.natAbs ≤ 16777216) (hv : v.natAbs ≤ 16777216) :
    Calls Try.prog 32 #[.slice (some ⟨w.heap.size, 0, none⟩) 2 2] (w.alloc (.cells #[.complex .f64 a b, .complex .f64 c d] T)) fun e w' => e = .returned (.int .i64 0) ∧ (w.alloc (.cells #[.complex .f64 a b, .complex .f64 c d] T)) = w' :=
  small_any w.heap.size 2 2 _ (by omega) fun k hk => by
    obtain rfl | rfl : k = 0 ∨ k = 1 := by omega
    · exact ⟨a, b, n, m, World.cell?_alloc_at _ _ _ _ rfl, ha, hb, hn, hm⟩
    · exact ⟨c, d, u, v, World.cell?_alloc_at _ _ _ _ rfl, hc, hd, hu, hv⟩

theorem mul_bd {n m : Int} {A B : Nat} (hn : n.natAbs ≤ A) (hm : m.natAbs ≤ B) : (n * m).natAbs ≤ A * B := by
  rw [Int.natAbs_mul]; exact Nat.mul_le_mul hn hm

/-- A small product, and what the walk needs of it. -/
theorem cmul_small {a b c d : Nat} {x y u v : Int} {A : Nat} (hA : A ≤ 33554432) (ha : Is a x) (hb : Is b y) (hc : Is c u) (hd : Is d v)
    (h1 : x.natAbs ≤ A) (h2 : y.natAbs ≤ A) (h3 : u.natAbs ≤ A) (h4 : v.natAbs ≤ A) :
    ∃ re im, cMulBits a b c d = some (re, im) ∧ Is re (x * u - y * v) ∧ Is im (x * v + y * u) ∧ (x * u - y * v).natAbs ≤ 2251799813685248 ∧ (x * v + y * u).natAbs ≤ 2251799813685248 := by
  have hAA : A * A ≤ 33554432 * 33554432 := Nat.mul_le_mul hA hA
  have k1 := mul_bd h1 h3
  have k2 := mul_bd h2 h4
  have k3 := mul_bd h1 h4
  have k4 := mul_bd h2 h3
  obtain ⟨re, im, h, i1, i2⟩ := cmul_is ha hb hc hd (by omega) (by omega) (by omega) (by omega) (by omega) (by omega) (by omega) (by omega) (by omega) (by omega)
  exact ⟨re, im, h, i1, i2, by omega, by omega⟩

set_option maxHeartbeats 1000000 in
theorem norm_any (a b : Nat) (n m : Int) (w : World) (ha : Is a n) (hb : Is b m) (hn : n.natAbs ≤ 16777216) (hm : m.natAbs ≤ 16777216) :
    Calls Try.prog 28 #[.complex .f64 a b] w fun e w' => e = .returned (.tuple #[.int .i64 (n * n + m * m), .int .i64 0]) ∧ Below w.heap.size w w' := by
  have hneg := neg_is hb (by omega)
  obtain ⟨re, im, hmul, hre, him, bre, _⟩ := cmul_small (A := 16777216) (by omega) ha hb ha hneg hn hm hn (by rw [Int.natAbs_neg]; exact hm)
  have hm2 := run_mul hmul
  have hval : n * n - m * -m = n * n + m * m := by rw [Int.mul_neg]; omega
  rw [hval] at hre bre
  have hcv := conv_fi hre (by omega)
  have HS := Lib.hid (fun T => small_one a b n m T w ha hb hn hm)
  have HC := Lib.hid (fun W => conj_any a b W)
  clear hmul hre him hneg ha hb hn hm hval bre
  generalize n * n + m * m = q at hcv ⊢
  go_enter Try.func28, Try.ntmps28
  go_wp2_with fail
  refine (HS.out _).mono ?_; rintro e w' ⟨rfl, rfl⟩
  go_wp2_with fail
  refine (HC.out _).mono ?_; rintro e w' ⟨rfl, rfl⟩
  go_wp2
  go_ret2
  exact ⟨rfl, (Below.refl _ _).alloc (Nat.le_refl _) _⟩

end Go.Proofs.Ytghniddefhdmmaa
