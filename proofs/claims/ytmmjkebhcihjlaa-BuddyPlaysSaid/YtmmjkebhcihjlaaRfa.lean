/- The document's own answer for package buddy: New, Has, all. -/
import Derived.Test.YtmmjkebhcihjlaaBui
namespace Go.Proofs.Ytmmjkebhcihjlaa
open Go.RowKit

/-- A reference in memory: S its free frames. -/
structure RfAt (w : World) (W c g fi n : Nat) (S : Nat → Bool) : Prop where
  blk : Blk w c 56 #[.int .i64 (fi : Int), .slice (some ⟨g, 0, none⟩) n n]
  on : w.ownsRow W 4 1 (.slice (some ⟨g, 0, none⟩) n n) n (bl n fun i => S (fi + i))
  rng : ∀ k, S k = true → fi ≤ k ∧ k < fi + n
  hi : fi + n ≤ 1048576
  ne : c ≠ g
  lo : W ≤ c

section
variable {w w' : World} {W c g fi n : Nat} {S S' : Nat → Bool}
theorem RfAt.below (h : RfAt w W c g fi n S) (hb : Below w.heap.size w w') : RfAt w' W c g fi n S := ⟨h.blk.below hb h.blk.lt, own_below h.on hb, h.rng, h.hi, h.ne, h.lo⟩
theorem RfAt.drewN (h : RfAt w W c g fi n S) (q : Nat) : RfAt (w.drewN q) W c g fi n S := h.below (below_drewN (Below.refl _ _) q)
theorem RfAt.apart {T : Nat → Prop} (h : RfAt w W c g fi n S) (ho : Only T w w') (h1 : ¬ T c) (h2 : ¬ T g) : RfAt w' W c g fi n S := ⟨h.blk.only ho h1, own_apart h.on ho (fun k e => by cases e; exact h2), h.rng, h.hi, h.ne, h.lo⟩
theorem RfAt.c0 (h : RfAt w W c g fi n S) : w.cell? ⟨c, 0, none⟩ = some (.int .i64 (fi : Int)) := h.blk.cell 0
theorem RfAt.c1 (h : RfAt w W c g fi n S) : w.cell? ⟨c, 1, none⟩ = some (.slice (some ⟨g, 0, none⟩) n n) := h.blk.cell 1
theorem RfAt.cell (h : RfAt w W c g fi n S) {j : Nat} (hj : j < n) : w.cell? ⟨g, j, none⟩ = some (.bool (S (fi + j))) := by rw [h.on.cellAt j (by omega), bl_get _ hj]
theorem RfAt.frozen (h : RfAt w W c g fi n S) (j : Nat) : w.frozen? ⟨g, j, none⟩ = false := h.on.frozenAt j
theorem RfAt.hasF_no (h : RfAt w W c g fi n S) {x : Int} (hx : ¬ ((fi : Int) ≤ x ∧ x < ((fi + n : Nat) : Int))) : hasF S x = false := by
  unfold hasF
  by_cases h0 : 0 ≤ x
  · cases hs : S x.toNat
    · simp
    · have := h.rng _ hs
      omega
  · simp; omega
/-- A frame is turned. -/
theorem RfAt.set (h : RfAt w W c g fi n S) {j : Nat} (hj : j < n) (v : Bool) (hS : ∀ k, S' k = if k = fi + j then v else S k) : RfAt (w.setCell ⟨g, j, none⟩ (.bool v)) W c g fi n S' ∧ Only (fun k => k = g) w (w.setCell ⟨g, j, none⟩ (.bool v)) := by
  obtain ⟨h1, h2⟩ := h.on.stored j (.bool v)
  have ho : Only (fun k => k = g) w (w.setCell ⟨g, j, none⟩ (.bool v)) := (Only.refl _ _).grown h2 (fun k e => .inl (by cases e; rfl))
  rw [bl_set] at h1
  refine ⟨⟨h.blk.only ho h.ne, ?_, fun k hk => ?_, h.hi, h.ne, h.lo⟩, ho⟩
  · have e : bl n (upd (fun i => S (fi + i)) j v) = bl n fun i => S' (fi + i) := by
      congr 1
      funext i
      unfold upd
      rw [hS (fi + i)]
      by_cases e : i = j
      · rw [if_pos e, if_pos (by omega)]
      · rw [if_neg e, if_neg (by omega)]
    rw [← e]
    exact h1
  · rw [hS k] at hk
    split at hk
    · omega
    · exact h.rng k hk

set_option maxRecDepth 100000 in
set_option maxHeartbeats 4000000 in
theorem rhas (h : RfAt w W c g fi n S) (x : Int) (hx : -9223372036854775808 ≤ x ∧ x ≤ 9223372036854775807) :
    Calls Try.prog 18 #[.pointer (some ⟨c, 0, none⟩), .int .i64 x] w fun e w' => e = .returned (.bool (hasF S x)) ∧ ∃ q, w' = w.drewN q := by
  have d0 := h.c0
  have d1 := h.c1
  have hh := h.hi
  obtain ⟨hx1, hx2⟩ := hx
  by_cases a1 : (fi : Int) ≤ x
  · have g1 : decide ((fi : Int) ≤ x) = true := by simp; exact a1
    obtain ⟨d, hd, hd2⟩ : ∃ d : Int, x - (fi : Int) = d ∧ 0 ≤ d := ⟨x - fi, rfl, by omega⟩
    by_cases a2 : d < (n : Int)
    · obtain ⟨j, rfl⟩ : ∃ j : Nat, d = j := ⟨d.toNat, by omega⟩
      have g2 : decide ((j : Int) < (n : Int)) = true := by simp; omega
      have hjn : j < n := by omega
      have g2' : decide (j < n) = true := by simp; exact hjn
      have cj := h.cell hjn
      have e0 : hasF S x = S (fi + j) := by rw [show x = ((fi + j : Nat) : Int) by omega, hasF_nat]
      obtain ⟨b, hb⟩ : ∃ b, S (fi + j) = b := ⟨_, rfl⟩
      rw [hb] at cj e0
      rw [e0]
      have HE := Lib.hid hd
      clear h hb e0
      go_enter Try.func18, Try.ntmps18
      go_wp2_with fail
      go_quiet (fail)
      go_wp2
      go_ret
      exact ⟨rfl, _, rfl⟩
    · have g2 : decide (d < (n : Int)) = false := by simp; omega
      rw [h.hasF_no (by omega)]
      clear h
      go_enter Try.func18, Try.ntmps18
      go_wp2_with fail
      go_quiet (fail)
      go_wp2
      go_ret
      exact ⟨rfl, _, rfl⟩
  · have g1 : decide ((fi : Int) ≤ x) = false := by simp; omega
    rw [h.hasF_no (by omega)]
    clear h
    go_enter Try.func18, Try.ntmps18
    go_wp2_with fail
    go_quiet (fail)
    go_wp2
    go_ret
    exact ⟨rfl, _, rfl⟩

def AlR (S : Nat → Bool) (f t : Nat) (wo : World) (v : Value) (wr : World) : Prop := ∃ i q : Nat, v = .int .i64 i ∧ i ≤ t ∧ (∀ j, j < i → S (f + j) = true) ∧ wr = wo.drewN q

set_option maxRecDepth 100000 in
set_option maxHeartbeats 4000000 in
theorem rall (h : RfAt w W c g fi n S) (f o : Nat) (hf : f ≤ 1048576) (ho : o ≤ 9) :
    Calls Try.prog 27 #[.pointer (some ⟨c, 0, none⟩), .int .i64 (f : Int), .int .i64 (o : Int)] w fun e w' => e = .returned (.bool (allB S f o)) ∧ ∃ q, w' = w.drewN q := by
  have HR := Lib.hid h
  obtain ⟨t, ht, ht2, ht3⟩ : ∃ t : Nat, (2 : Int) ^ o = (t : Int) ∧ t ≤ 512 ∧ t = 2 ^ o := ⟨2 ^ o, by simp, by have := Bud.pow_le ho; omega, rfl⟩
  have HT := Lib.hid ht3
  obtain ⟨ab, hab⟩ : ∃ ab, allB S f o = ab := ⟨_, rfl⟩
  rw [hab]
  have HAB := Lib.hid hab
  clear h ht3 hab
  go_enter Try.func27, Try.ntmps27
  go_wp2_with fail
  obtain ⟨wo, rfl⟩ : ∃ wo : World, wo = w := ⟨_, rfl⟩
  go_loopw [7] (AlR S f t wo) (fun v _ => t - cntI v)
  case atStart => exact ⟨0, 0, rfl, Nat.zero_le _, fun j hj => absurd hj (Nat.not_lt_zero _), rfl⟩
  case round =>
    obtain ⟨i, q, rfl, hi, hall, rfl⟩ := hrel
    have HALL := Lib.hid hall
    clear hall
    by_cases hit : i < t
    · have g0 : decide ((i : Int) < (t : Int)) = true := by simp; exact hit
      have g0' : decide (i < t) = true := by simp; exact hit
      obtain ⟨k, hk, hk2⟩ : ∃ k : Nat, (f : Int) + (i : Int) = (k : Int) ∧ k = f + i := ⟨f + i, by simp, rfl⟩
      have CH := rhas (HR.out.drewN q) (k : Int) (by omega)
      rw [hasF_nat] at CH
      have HK := Lib.hid hk2
      clear hk2
      cases hs : S k
      · rw [hs] at CH
        have hfin : ab = false := by
          cases ab
          · rfl
          · have := (allB_iff.1 HAB.out) k (by have := HK.out; omega) (by have := HK.out; have := HT.out; omega)
            rw [hs] at this; cases this
        subst hfin
        clear hs
        go_wp2_with fail
        refine CH.mono ?_; rintro e w6 ⟨rfl, q6, rfl⟩
        clear CH
        go_wp2
        go_ret
        exact ⟨rfl, q + q6, rfl⟩
      · rw [hs] at CH
        have HS := Lib.hid hs
        clear hs
        go_wp2_with fail
        refine CH.mono ?_; rintro e w6 ⟨rfl, q6, rfl⟩
        clear CH
        go_wp2
        go_roundw
        case rel => exact ⟨i + 1, q + q6, by go_num, by omega, fun j hj => by
          by_cases e : j = i
          · rw [e, ← HK.out]; exact HS.out
          · exact HALL.out j (by omega), rfl⟩
        case measure => simp [cntI]; omega
    · have g0 : decide ((i : Int) < (t : Int)) = false := by simp; omega
      have g0' : decide (i < t) = false := by simp; omega
      have hfin : ab = true := by
        rw [← HAB.out]
        exact allB_iff.2 fun k k1 k2 => by
          have := HALL.out (k - f) (by have := HT.out; omega)
          rwa [show f + (k - f) = k by omega] at this
      subst hfin
      go_wp2
      go_ret
      exact ⟨rfl, q, rfl⟩

theorem rnew_bad (x y : Int) (w : World) (h : x < 0 ∨ 1048576 < x ∨ y < 0 ∨ 1048576 - x < y) :
    Calls Try.prog 10 #[.int .i64 x, .int .i64 y] w fun e w' => e = .returned (.tuple #[.pointer none, .int .i64 1]) ∧ w = w' := by
  by_cases a0 : x < 0
  · have g0 : decide (x < 0) = true := by simp; omega
    clear h
    go_enter Try.func10, Try.ntmps10
    go_wp2
    go_ret2
    exact ⟨rfl, rfl⟩
  · have g0 : decide (x < 0) = false := by simp; omega
    by_cases a1 : (1048576 : Int) < x
    · have g1 : decide ((1048576 : Int) < x) = true := by simp; omega
      clear h
      go_enter Try.func10, Try.ntmps10
      go_wp2
      go_ret2
      exact ⟨rfl, rfl⟩
    · have g1 : decide ((1048576 : Int) < x) = false := by simp; omega
      by_cases a2 : y < 0
      · have g2 : decide (y < 0) = true := by simp; omega
        clear h
        go_enter Try.func10, Try.ntmps10
        go_wp2
        go_ret2
        exact ⟨rfl, rfl⟩
      · have g2 : decide (y < 0) = false := by simp; omega
        have g3 : decide ((1048576 : Int) - x < y) = true := by simp; omega
        clear h
        go_enter Try.func10, Try.ntmps10
        go_wp2
        go_ret2
        exact ⟨rfl, rfl⟩

def NrR (w : World) (c g fi n : Nat) (v : Value) (wr : World) : Prop := ∃ (i : Nat), v = .int .i64 i ∧ i ≤ n ∧ Below w.heap.size w wr ∧ RfAt wr w.heap.size c g fi n (seg fi i)

set_option maxRecDepth 100000 in
set_option maxHeartbeats 4000000 in
theorem rnew_ok (fi n : Nat) (w : World) (hn : n ≤ 1500) (hfn : fi + n ≤ 1048576) :
    Calls Try.prog 10 #[.int .i64 (fi : Int), .int .i64 (n : Int)] w fun e w' => ∃ c g, e = .returned (.tuple #[.pointer (some ⟨c, 0, none⟩), .int .i64 0]) ∧ RfAt w' w.heap.size c g fi n (seg fi n) ∧ Below w.heap.size w w' ∧ w.heap.size ≤ g := by
  have g1 : decide ((fi : Int) < 0) = false := by simp
  have g2 : decide ((1048576 : Int) < (fi : Int)) = false := by simp; omega
  have g3 : decide ((n : Int) < 0) = false := by simp
  have g4 : decide ((1048576 : Int) - (fi : Int) < (n : Int)) = false := by simp; omega
  obtain ⟨i1, ki0, kz0, kz1, kz2⟩ := info_parts infoB
  obtain ⟨w2, hmk, hown, hg⟩ := run_makeSlice_full (P := Try.prog) w w.heap.size 48 4 i1 (.bool false) 1 Try.underlying48 ki0 kz0 kz1 .i64 .i64 n (by omega) (by rw [kz2]; omega) (by unfold maxLen; omega) (Nat.le_refl _)
  rw [made_one _ rfl, bl_made] at hown
  have hb2 : Below w.heap.size w w2 := (Below.refl _ _).grown hg (Nat.le_refl _) (fun _ e => by cases e)
  have HO := Lib.hid hown
  have HB := Lib.hid hb2
  have hlt := (hown.lt w.heap.size rfl).2
  obtain ⟨g, hgg⟩ : ∃ g, w.heap.size = g := ⟨_, rfl⟩
  have HGG := Lib.hid hgg
  clear hown hg hb2
  rw [hgg] at hmk
  clear hgg
  go_enter Try.func10, Try.ntmps10
  go_wp2_with fail
  go_loopw [7] (NrR w w2.heap.size g fi n) (fun v _ => n - cntI v)
  case atStart =>
    have hown := HO.out
    have hg9 := HGG.out
    rw [hg9] at hown
    have hba : Below w2.heap.size w2 (w2.alloc (.cells #[.int .i64 (fi : Int), .slice (some ⟨g, 0, none⟩) n n] 56)) := (Below.refl _ _).alloc (Nat.le_refl _) _
    refine ⟨0, rfl, Nat.zero_le _, HB.out.trans (hba.mono HB.out.size), ⟨Blk.new w2 _ _, own_below ?_ hba, fun k hk => by have := seg_iff.1 hk; omega, hfn, by omega, HB.out.size⟩⟩
    have e : bl n (fun _ => false) = bl n fun i => seg fi 0 (fi + i) := by
      congr 1
      funext i
      cases hs : seg fi 0 (fi + i)
      · rfl
      · have := seg_iff.1 hs; omega
    rw [← e, hg9]
    exact hown
  case round =>
    clear hmk HO HB
    obtain ⟨i, rfl, hi, hbe, hrf⟩ := hrel
    have HBE := Lib.hid hbe
    have HRF := Lib.hid hrf
    have d1 := hrf.c1
    by_cases hin : i < n
    · have g0 : decide ((i : Int) < (n : Int)) = true := by simp; exact hin
      have g0' : decide (i < n) = true := by simp; exact hin
      have cw := hrf.cell hin
      have cz := hrf.frozen i
      have hs := hrf.set (S' := seg fi (i + 1)) hin true (fun k => by
        by_cases e : k = fi + i
        · rw [if_pos e, e]; exact seg_iff.2 ⟨by omega, by omega⟩
        · rw [if_neg e, Bool.eq_iff_iff, seg_iff, seg_iff]; omega)
      have HS := Lib.hid hs
      clear hs hbe hrf
      go_wp2
      go_roundw
      case rel => exact ⟨i + 1, by go_num, by omega, HBE.out.trans (HS.out.2.to_below (fun k hk => by subst hk; exact (HRF.out.on.lt _ rfl).1) HBE.out.size), HS.out.1⟩
      case measure => simp [cntI]; omega
    · obtain rfl : i = n := by omega
      have g0 : decide ((i : Int) < (i : Int)) = false := by simp
      clear hbe hrf
      go_wp2
      go_ret2
      exact ⟨_, _, rfl, HRF.out, HBE.out, by have := (HRF.out.on.lt _ rfl).1; exact this⟩
end
end Go.Proofs.Ytmmjkebhcihjlaa
