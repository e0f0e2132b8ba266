/- The walk of the statement DigestFollows: it returns true. -/
import Derived.Test.YteliehgndimhjaaD3a
namespace Go.Proofs.Yteliehgndimhjaa
open Go.RowKit Flo

def WordsR (xs : List Value) : Prop := ∀ u ∈ xs, ∃ i : Nat, u = .int .u64 (i : Int) ∧ i < 18446744073709551616
theorem wordsR_of {xs : List Value} (h : ∀ u ∈ xs, ∃ i, u = .int .u64 i ∧ (Lit.int .u64 i).wf = true) : WordsR xs := fun u hu => by
  obtain ⟨i, rfl, hw⟩ := h u hu
  have hb : 0 ≤ i ∧ i ≤ 18446744073709551615 := by
    have h1 : IntKind.u64.min = 0 := by decide +kernel
    have h2 : IntKind.u64.max = 18446744073709551615 := by decide +kernel
    simp only [Lit.wf, h1, h2, Bool.and_eq_true, decide_eq_true_eq] at hw
    exact hw
  exact ⟨i.toNat, by rw [Int.toNat_of_nonneg hb.1], by omega⟩

/-- A word put in, byte by byte. -/
def putw (g : Nat → Nat) (k v : Nat) : Nat → Nat → Nat
  | 0 => g
  | j + 1 => upd (putw g k v j) (8 * k + j) (v / 2 ^ (8 * j) % 256)

theorem putw_bytes {g : Nat → Nat} (hg : Bytes g) (k v j : Nat) : Bytes (putw g k v j) := by
  induction j with
  | zero => exact hg
  | succ j ih => exact upd_bytes ih _ _ (Nat.mod_lt _ (by decide))

theorem putw_at (g : Nat → Nat) (k v i : Nat) (j : Nat) : putw g k v j i = if 8 * k ≤ i ∧ i < 8 * k + j then v / 2 ^ (8 * (i - 8 * k)) % 256 else g i := by
  induction j with
  | zero => rw [if_neg (by omega)]; rfl
  | succ j ih =>
    show (if i = 8 * k + j then v / 2 ^ (8 * j) % 256 else putw g k v j i) = _
    by_cases h : i = 8 * k + j
    · rw [if_pos h, if_pos (by omega), show i - 8 * k = j from by omega]
    · rw [if_neg h, ih]
      by_cases h2 : 8 * k ≤ i ∧ i < 8 * k + j
      · rw [if_pos h2, if_pos (by omega)]
      · rw [if_neg h2, if_neg (by omega)]

theorem wl_congr (g h : Nat → Nat) (k : Nat) (j : Nat) (e : ∀ i, i < j → g (8 * k + i) = h (8 * k + i)) : wl g k j = wl h k j := by
  induction j with
  | zero => rfl
  | succ j ih =>
    show wl g k j + _ = wl h k j + _
    rw [ih fun i hi => e i (by omega), e j (by omega)]

theorem wv_put (g : Nat → Nat) (k v : Nat) (hv : v < 18446744073709551616) : wv (putw g k v 8) k = v := by
  have h : ∀ i, i < 8 → putw g k v 8 (8 * k + i) = v / 2 ^ (8 * i) % 256 := fun i hi => by
    rw [putw_at, if_pos (by omega), show 8 * k + i - 8 * k = i from by omega]
  unfold wv
  simp only [wl, h 0 (by omega), h 1 (by omega), h 2 (by omega), h 3 (by omega), h 4 (by omega), h 5 (by omega), h 6 (by omega), h 7 (by omega), Nat.reduceMul, Nat.reducePow]
  omega

theorem wv_other (g : Nat → Nat) (k i v : Nat) (hi : i ≠ k) : wv (putw g k v 8) i = wv g i := by
  refine wl_congr _ _ _ _ fun j hj => ?_
  rw [putw_at, if_neg (by omega)]

theorem t_lin (a b c d k : Int) : tRe (a + c) (b + d) k = tRe a b k + tRe c d k ∧ tIm (a + c) (b + d) k = tIm a b k + tIm c d k := by
  unfold tRe tIm
  by_cases h0 : k % 4 = 0
  · simp [h0]
  by_cases h1 : k % 4 = 1
  · simp [h1]; omega
  by_cases h2 : k % 4 = 2
  · simp [h2]; omega
  · simp [h0, h1, h2]; omega

theorem S_put (g : Nat → Nat) (k v : Nat) (hv : v < 18446744073709551616) (m : Nat) :
    SRe (putw g k v 8) m = SRe g m + (if k < m then tRe (lo v - lo (wv g k)) (hi v - hi (wv g k)) k else 0) ∧
    SIm (putw g k v 8) m = SIm g m + (if k < m then tIm (lo v - lo (wv g k)) (hi v - hi (wv g k)) k else 0) := by
  induction m with
  | zero => simp [SRe, SIm]
  | succ m ih =>
    simp only [SRe, SIm]
    rw [ih.1, ih.2]
    by_cases h : m = k
    · subst h
      rw [wv_put g m v hv, if_neg (by omega), if_pos (by omega), if_neg (by omega), if_pos (by omega)]
      have h := t_lin (lo (wv g m)) (hi (wv g m)) (lo v - lo (wv g m)) (hi v - hi (wv g m)) m
      rw [show lo (wv g m) + (lo v - lo (wv g m)) = lo v from by omega, show hi (wv g m) + (hi v - hi (wv g m)) = hi v from by omega] at h
      omega
    · rw [wv_other g k m v h]
      by_cases h2 : k < m
      · rw [if_pos h2, if_pos (by omega), if_pos h2, if_pos (by omega)]; omega
      · rw [if_neg h2, if_neg (by omega), if_neg h2, if_neg (by omega)]; omega

theorem blk_put {W : World} {b : Nat} {T : TypeId} {g : Nat → Nat} {k v t : Nat} (h : Blk W b T (pc (putw g k v t))) :
    Blk (W.setCell ⟨b, 8 * k + t, none⟩ (.int .u8 ((v : Int) / 2 ^ (8 * t) % 256))) b T (pc (putw g k v (t + 1))) := by
  have e : ((v : Int) / 2 ^ (8 * t) % 256) = ((v / 2 ^ (8 * t) % 256 : Nat) : Int) := by simp
  rw [e]
  have h2 := h.set_ (8 * k + t) (.int .u8 ((v / 2 ^ (8 * t) % 256 : Nat) : Int))
  rw [pc_set] at h2
  exact h2

set_option maxHeartbeats 4000000 in
set_option maxRecDepth 100000 in
theorem digestFollows_walk (A B C D : Option Addr) (n m p q c d e f : Nat) (xs ys ks ws : List Value) (w : World) (ha : Reads w w.heap.size 1 A n xs) (hb : Reads w w.heap.size 1 B m ys)
    (hc : Reads w w.heap.size 1 C p ks) (hd : Reads w w.heap.size 1 D q ws) (hx : IntsR xs) (hy : BytesR ys) (hks : IntsR ks) (hws : WordsR ws) :
    Calls Try.prog 4 #[.slice A n c, .slice B m d, .slice C p e, .slice D q f] w fun e w' => e = .returned (.bool true) ∧ Below w.heap.size w w' := by
  have HPg := Lib.hid (page_any A B n m c d xs ys w ha hb hx hy)
  have HC := Lib.hid hc
  have HD := Lib.hid hd
  clear ha hb hx hy hc hd
  go_enter Try.func4, Try.ntmps4
  go_wp2_with fail
  refine HPg.out.mono ?_; rintro e w1 ⟨rfl, g0, hg0, hblk0, hb1⟩
  have HB0 := Lib.hid hblk0
  have HL0 := Lib.hid hb1
  clear hblk0 hb1
  go_wp2_with fail
  refine (of_page w.heap.size 4096 g0 w1 (PageAt.of_blk HB0.out) hg0).mono ?_; rintro e w' ⟨rfl, rfl⟩
  go_wp2
  go_loopw [10, 12] (fun z i wo => ∃ k : Nat, i = .int .i64 k ∧ k ≤ 20 ∧ ∃ g, Bytes g ∧ z = .complex .f64 (F (SRe g 512)) (F (SIm g 512)) ∧ Blk wo w.heap.size 5 (pc g) ∧ Below w.heap.size w wo) (fun _ i _ => 20 - (intOf i).toNat)
  case atStart => exact ⟨0, rfl, by omega, g0, hg0, rfl, HB0.out, HL0.out⟩
  case round =>
    obtain ⟨wo, rfl⟩ : ∃ wo : World, wo = wr := ⟨_, rfl⟩
    obtain ⟨i, rfl, hi, g, hg, rfl, hblk, hbel⟩ := hrel
    have HB := Lib.hid hblk
    have HL := Lib.hid hbel
    clear hblk hbel
    by_cases hlt : i < p ∧ i < q ∧ i < 20
    · obtain ⟨h1, h2, h3⟩ := hlt
      obtain ⟨a1, u1, rfl, hb1, hx1, hc1⟩ := (HC.out.below HL.out).at_ h1
      obtain ⟨x1, rfl⟩ := hks _ (List.mem_of_getElem? hx1)
      clear hx1 hb1
      have hmod : -511 ≤ x1.tmod 512 ∧ x1.tmod 512 ≤ 511 := by
        have h : (x1.tmod 512).natAbs < 512 := by rw [Int.natAbs_tmod]; exact Nat.mod_lt _ (by decide)
        omega
      obtain ⟨k, hk⟩ : ∃ k : Nat, x1.tmod 512 % 512 = (k : Int) := ⟨(x1.tmod 512 % 512).toNat, by omega⟩
      have hk5 : k < 512 := by omega
      have hk2 : (x1.tmod 512 + 512) % 512 = (k : Int) := by omega
      have d20 : decide ((i : Int) < 20) = true := by simp; omega
      have HP := Lib.hid (PageAt.of_blk HB.out)
      go_wp2
      rw [hk2]
      clear hk hk2 hmod hc1
      go_loop [14, 15] (fun v i => ∃ t : Nat, t ≤ 8 ∧ i = .int .i64 (7 - (t : Int)) ∧ v = .int .u64 (wr g k t)) (fun _ i => (intOf i + 1).toNat)
      case atStart => exact ⟨0, by omega, rfl, rfl⟩
      case round =>
        obtain ⟨t, ht, rfl, rfl⟩ := hrel
        by_cases hlt2 : t < 8
        · have hcell := HP.out (8 * k + (7 - t)) (by omega)
          have hb := hg (8 * k + (7 - t))
          have hr := wr_lt g hg k t
          have hr2 : (2 : Nat) ^ (8 * t) ≤ 2 ^ 56 := Nat.pow_le_pow_right (by omega) (by omega)
          have hr3 : (wr g k t : Int) ≤ 72057594037927935 := by omega
          have hr4 := Lib.hid (show wr g k t < 72057594037927936 by omega)
          have e1 : (8 * (k : Int) + (7 - (t : Int))).toNat = 8 * k + (7 - t) := by omega
          clear hr hr2
          go_wp2
          go_round
          case rel => exact ⟨t + 1, by omega, by rw [show (7 - (t : Int) - 1) = 7 - ((t + 1 : Nat) : Int) from by omega], congrArg (Value.int .u64) (or_low _ _ hr4.out hb)⟩
          case measure => simp [intOf]; omega
        · obtain rfl : t = 8 := by omega
          rw [wr_eq]
          obtain ⟨a2, u2, rfl, hb2, hx2, hc2⟩ := (HD.out.below HL.out).at_ h2
          obtain ⟨v, rfl, hv⟩ := hws _ (List.mem_of_getElem? hx2)
          clear hx2
          have HV := Lib.hid hv
          have hv' : (v : Int) ≤ 18446744073709551615 := by omega
          clear hv
          have hc2' := Lib.hid hc2
          clear hc2
          go_wp2
          go_loopw [16] (fun j W => ∃ t : Nat, j = .int .i64 t ∧ t ≤ 8 ∧ Blk W w.heap.size 5 (pc (putw g k v t)) ∧ Below w.heap.size wo W) (fun j _ => 8 - (intOf j).toNat)
          case atStart => exact ⟨0, rfl, by omega, HB.out, Below.refl _ _⟩
          case round =>
            obtain ⟨t, rfl, ht, hblk2, hbel2⟩ := hrel
            have HB2 := Lib.hid hblk2
            have HL2 := Lib.hid hbel2
            clear hblk2 hbel2
            by_cases hlt3 : t < 8
            · have hcv := (HL2.out.cell (p := a2.add i) (by rw [block_of_add]; exact hb2)).trans hc2'.out
              have hcell := (PageAt.of_blk HB2.out) (8 * k + t) (by omega)
              have hfz := HB2.out.frozen (8 * k + t)
              go_wp2
              go_roundw
              case rel => exact ⟨t + 1, by go_num, by omega, blk_put HB2.out, HL2.out.setCell (p := ⟨w.heap.size, 8 * k + t, none⟩) (Nat.le_refl _) _⟩
              case measure => simp [intOf]; omega
            · obtain rfl : t = 8 := by omega
              have hcv := (HL2.out.cell (p := a2.add i) (by rw [block_of_add]; exact hb2)).trans hc2'.out
              have hS := S_bd g hg 512
              have HCh := Lib.hid (fun W => change_any (SRe g 512) (SIm g 512) k (wv g k) v W hk5 (wv_lt g hg k) HV.out (by omega) (by omega))
              clear hS
              have hE := S_put g k v HV.out 512
              rw [if_pos hk5, if_pos hk5] at hE
              rw [← hE.1, ← hE.2] at HCh
              clear hE
              have hG := putw_bytes hg k v 8
              have hS2 := S_bd _ hG 512
              have HO := Lib.hid (of_page w.heap.size 4096 _ wr (PageAt.of_blk HB2.out) hG)
              have o1 := ord_self (SRe (putw g k v 8) 512) (by omega)
              have o2 := ord_self (SIm (putw g k v 8) 512) (by omega)
              clear hS2
              have HB3 := Lib.hid (show Blk wr w.heap.size 5 (pc (putw g k v 8)) from HB2.out)
              clear HB2
              generalize putw g k v 8 = g' at *
              go_wp2_with fail
              refine (HCh.out _).mono ?_; rintro e w' ⟨rfl, rfl⟩
              go_wp2_with fail
              refine HO.out.mono ?_; rintro e w' ⟨rfl, rfl⟩
              go_wp2
              go_roundw
              case rel => exact ⟨i + 1, by go_num, by omega, g', hG, rfl, HB3.out, HL.out.trans HL2.out⟩
              case measure => simp [intOf]; omega
    · have hall : (i < p ∧ i < q ∧ i < 20) ∨ ¬ i < p ∨ (i < p ∧ ¬ i < q) ∨ (i < p ∧ i < q ∧ ¬ i < 20) := by omega
      rcases hall with h | h | ⟨h1, h2⟩ | ⟨h1, h2, h3⟩
      · exact absurd h hlt
      all_goals
        clear hlt
        go_wp2_with fail
        refine (told_any _).mono ?_; rintro e w2 ⟨rfl, hb2⟩
        go_wp2
        go_ret
        have s1 := HL.out.size
        exact ⟨rfl, HL.out.trans (hb2.mono s1)⟩

end Go.Proofs.Yteliehgndimhjaa
