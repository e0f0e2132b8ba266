/- The walk of the statement DigestAdds: it returns true. -/
import Derived.Test.YteliehgndimhjaaDigt
namespace Go.Proofs.Yteliehgndimhjaa
open Go.RowKit Flo

theorem intsR_of {xs : List Value} (h : ∀ u ∈ xs, ∃ i, u = .int .i64 i ∧ (Lit.int .i64 i).wf = true) : IntsR xs := fun u hu => by
  obtain ⟨i, rfl, _⟩ := h u hu
  exact ⟨i, rfl⟩
theorem bytesR_of {xs : List Value} (h : ∀ u ∈ xs, ∃ i, u = .int .u8 i ∧ (Lit.int .u8 i).wf = true) : BytesR xs := fun u hu => by
  obtain ⟨i, rfl, hw⟩ := h u hu
  have hb : 0 ≤ i ∧ i ≤ 255 := by
    have h1 : IntKind.u8.min = 0 := by decide +kernel
    have h2 : IntKind.u8.max = 255 := by decide +kernel
    simp only [Lit.wf, h1, h2, Bool.and_eq_true, decide_eq_true_eq] at hw
    exact hw
  exact ⟨i.toNat, by rw [Int.toNat_of_nonneg hb.1], by omega⟩

/-- A byte is put in below. -/
theorem or_low (v b : Nat) (hv : v < 72057594037927936) (hb : b < 256) : bits .or .u64 ((v : Int) * 256) (b : Int) = ((v * 256 + b : Nat) : Int) := by
  have h := Nat.two_pow_add_eq_or_of_lt (i := 8) hb v
  have e1 : (BitVec.ofInt 64 ((v : Int) * 256)).toNat = v * 256 := by
    rw [BitVec.toNat_ofInt]; omega
  have e2 : (BitVec.ofInt 64 (b : Int)).toNat = b := by
    rw [BitVec.toNat_ofInt]; omega
  show IntKind.u64.wrap ((BitVec.ofInt 64 ((v : Int) * 256) ||| BitVec.ofInt 64 (b : Int)).toNat : Int) = _
  rw [BitVec.toNat_or, e1, e2, show v * 256 ||| b = v * 256 + b from by rw [Nat.mul_comm]; exact h.symm]
  exact IntWalk.u64_in _ (by omega)

set_option maxHeartbeats 2000000 in
set_option maxRecDepth 100000 in
theorem digestAdds_walk (A B : Option Addr) (n m c d : Nat) (xs ys : List Value) (w : World) (ha : Reads w w.heap.size 1 A n xs) (hb : Reads w w.heap.size 1 B m ys) (hx : IntsR xs) (hy : BytesR ys) :
    Calls Try.prog 6 #[.slice A n c, .slice B m d] w fun e w' => e = .returned (.bool true) ∧ Below w.heap.size w w' := by
  have HPg := Lib.hid (page_any A B n m c d xs ys w ha hb hx hy)
  clear ha hb hx hy
  go_enter Try.func6, Try.ntmps6
  go_wp2_with fail
  refine HPg.out.mono ?_; rintro e w1 ⟨rfl, g, hg, hblk, hb1⟩
  have HB := Lib.hid hblk
  clear hblk
  go_wp2
  go_loop [6, 7] (fun s i => ∃ k : Nat, k ≤ 512 ∧ i = .int .i64 k ∧ s = .complex .f64 (F (SRe g k)) (F (SIm g k))) (fun _ i => 512 - (intOf i).toNat)
  case atStart => exact ⟨0, by omega, rfl, by rw [show SRe g 0 = 0 from rfl, show SIm g 0 = 0 from rfl, F_zero]⟩
  case round =>
    obtain ⟨k, hk, rfl, rfl⟩ := hrel
    by_cases hlt : k < 512
    · have hw := Lib.hid (wv_lt g hg k)
      have hS := S_bd g hg k
      have hl := lo_bd (wv g k)
      have hh := hi_bd (wv g k) hw.out
      have ht := t_bd (lo (wv g k)) (hi (wv g k)) k 4294967295 hl hh
      have HW := Lib.hid (fun W => word_any (wv g k) hw.out W)
      have HT := Lib.hid (fun W => turn_any _ _ (lo (wv g k)) (hi (wv g k)) k W (F_is _) (F_is _) (by omega) (by omega))
      have HA := Lib.hid (fun W => add_any _ _ _ _ (SRe g k) (SIm g k) (tRe (lo (wv g k)) (hi (wv g k)) k) (tIm (lo (wv g k)) (hi (wv g k)) k) W (F_is _) (F_is _) (F_is _) (F_is _) (by omega) (by omega) (by omega) (by omega) (by omega) (by omega))
      clear hS hl hh ht
      have HP := Lib.hid (PageAt.of_blk HB.out)
      go_wp2
      go_loop [8, 9] (fun v i => ∃ t : Nat, t ≤ 8 ∧ i = .int .i64 (7 - (t : Int)) ∧ v = .int .u64 (wr g k t)) (fun _ i => (intOf i + 1).toNat)
      case atStart => exact ⟨0, by omega, rfl, rfl⟩
      case round =>
        obtain ⟨t, ht, rfl, rfl⟩ := hrel
        by_cases hlt2 : t < 8
        · have hcell := HP.out (8 * k + (7 - t)) (by omega)
          have hb := hg (8 * k + (7 - t))
          have hr := wr_lt g hg k t
          have hr2 : (2 : Nat) ^ (8 * t) ≤ 2 ^ 56 := Nat.pow_le_pow_right (by omega) (by omega)
          have hr3 : (wr g k t : Int) ≤ 72057594037927935 := by omega
          have hr4 := Lib.hid (show wr g k t < 72057594037927936 by omega)
          have e1 : (8 * (k : Int) + (7 - (t : Int))).toNat = 8 * k + (7 - t) := by omega
          clear hr hr2
          go_wp2
          go_round
          case rel => exact ⟨t + 1, by omega, by rw [show (7 - (t : Int) - 1) = 7 - ((t + 1 : Nat) : Int) from by omega], congrArg (Value.int .u64) (or_low _ _ hr4.out hb)⟩
          case measure => simp [intOf]; omega
        · obtain rfl : t = 8 := by omega
          rw [wr_eq]
          go_wp2_with fail
          refine (HW.out _).mono ?_; rintro e w' ⟨rfl, rfl⟩
          go_wp2_with fail
          refine (HT.out _).mono ?_; rintro e w' ⟨rfl, rfl⟩
          go_wp2_with fail
          refine (HA.out _).mono ?_; rintro e w' ⟨rfl, rfl⟩
          go_wp2
          go_round
          case rel => exact ⟨k + 1, by omega, by go_num, rfl⟩
          case measure => simp [intOf]; omega
    · obtain rfl : k = 512 := by omega
      have hS := S_bd g hg 512
      have HO := Lib.hid (of_page w.heap.size 4096 g w1 (PageAt.of_blk HB.out) hg)
      have o1 := ord_self (SRe g 512) (by omega)
      have o2 := ord_self (SIm g 512) (by omega)
      have HC := Lib.hid (fun W => clean_any (SRe g 512) (SIm g 512) W (by omega) (by omega))
      clear hS
      go_wp2_with fail
      refine HO.out.mono ?_; rintro e w' ⟨rfl, rfl⟩
      go_wp2_with fail
      refine (told_any _).mono ?_; rintro e w2 ⟨rfl, hb2⟩
      go_wp2_with fail
      refine (HC.out _).mono ?_; rintro e w' ⟨rfl, rfl⟩
      go_wp2
      go_ret
      have s1 := hb1.size
      exact ⟨rfl, hb1.trans (hb2.mono s1)⟩

end Go.Proofs.Yteliehgndimhjaa
