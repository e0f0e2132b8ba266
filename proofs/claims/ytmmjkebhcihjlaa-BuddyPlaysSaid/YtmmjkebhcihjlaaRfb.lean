/- The document's own answer for package buddy: Free, Give. -/
import Derived.Test.YtmmjkebhcihjlaaRfa
namespace Go.Proofs.Ytmmjkebhcihjlaa
open Go.RowKit

/-- Behind a call that turns the frames alone. -/
def RfTo (w w' : World) (W c g fi n : Nat) (S' : Nat → Bool) : Prop := RfAt w' W c g fi n S' ∧ Only (fun k => k = g) w w'

section
variable {w w' : World} {W c g fi n : Nat} {S S' : Nat → Bool}
def FrR (S : Nat → Bool) (fi n : Nat) (w : World) (vn vi : Value) (wr : World) : Prop := ∃ i : Nat, vi = .int .i64 i ∧ vn = .int .i64 (cntS S fi i : Nat) ∧ i ≤ n ∧ wr = w

theorem cntS_succ (S : Nat → Bool) (a i : Nat) : cntS S a (i + 1) = cntS S a i + if S (a + i) then 1 else 0 := by
  unfold cntS
  rw [← List.range'_append_1 (m := i) (n := 1), List.countP_append]
  congr 1
  simp

set_option maxRecDepth 100000 in
theorem rfree (h : RfAt w W c g fi n S) (hn : n ≤ 1500) :
    Calls Try.prog 16 #[.pointer (some ⟨c, 0, none⟩)] w fun e w' => e = .returned (.int .i64 (cntS S fi n : Nat)) ∧ w = w' := by
  have HR := Lib.hid h
  have d1 := h.c1
  clear h
  go_enter Try.func16, Try.ntmps16
  go_wp2_with fail
  obtain ⟨wo, rfl⟩ : ∃ wo : World, wo = w := ⟨_, rfl⟩
  go_loopw [3, 4] (FrR S fi n wo) (fun _ v _ => n - cntI v)
  case atStart => exact ⟨0, rfl, by simp [cntS], Nat.zero_le _, rfl⟩
  case round =>
    obtain ⟨i, rfl, rfl, hi, rfl⟩ := hrel
    obtain ⟨cn, hcn⟩ : ∃ cn, cntS S fi i = cn := ⟨_, rfl⟩
    have hcb : cn ≤ 1500 := by have := cntS_le S fi i; omega
    rw [hcn]
    have HCN := Lib.hid hcn
    clear hcn
    by_cases hin : i < n
    · have g0 : decide ((i : Int) < (n : Int)) = true := by simp; exact hin
      have g0' : decide (i < n) = true := by simp; exact hin
      have cw := HR.out.cell hin
      cases hs : S (fi + i)
      · rw [hs] at cw
        have HS := Lib.hid hs
        clear hs
        go_wp2
        go_roundw
        case rel => exact ⟨i + 1, by go_num, by rw [cntS_succ, HS.out, HCN.out]; rfl, by omega, rfl⟩
        case measure => simp [cntI]; omega
      · rw [hs] at cw
        have HS := Lib.hid hs
        clear hs
        go_wp2
        go_roundw
        case rel => exact ⟨i + 1, by go_num, by rw [cntS_succ, HS.out, HCN.out]; go_num, by omega, rfl⟩
        case measure => simp [cntI]; omega
    · obtain rfl : i = n := by omega
      have g0 : decide ((i : Int) < (i : Int)) = false := by simp
      go_wp2
      go_ret
      exact ⟨by rw [HCN.out]; rfl, rfl⟩

theorem rgive_arg0 (c : Nat) (x y : Int) (w : World) (hy : y < 0 ∨ 10 ≤ y) :
    Calls Try.prog 14 #[.pointer (some ⟨c, 0, none⟩), .int .i64 x, .int .i64 y] w fun e w' => e = .returned (.int .i64 1) ∧ ∃ q, w' = w.drewN q := by
  rcases hy with hy | hy
  · have g1 : decide (y < 0) = true := by simp; omega
    go_enter Try.func14, Try.ntmps14
    go_wp2_with fail
    go_quiet (fail)
    go_wp2
    go_ret
    exact ⟨rfl, _, rfl⟩
  · have g1 : decide (y < 0) = false := by simp; omega
    have g2 : decide (9 < y) = true := by simp; omega
    go_enter Try.func14, Try.ntmps14
    go_wp2_with fail
    go_quiet (fail)
    go_wp2
    go_ret
    exact ⟨rfl, _, rfl⟩

set_option maxRecDepth 100000 in
set_option maxHeartbeats 4000000 in
theorem rgive_arg (h : RfAt w W c g fi n S) (hn : n ≤ 1500) (x : Int) (hxr : x ≤ 9223372036854775807) {o : Nat} (ho : o < 10) (hb : ¬ (x.tmod (2 ^ o) = 0 ∧ (fi : Int) ≤ x ∧ x ≤ ((fi + n : Nat) : Int) - 2 ^ o)) :
    Calls Try.prog 14 #[.pointer (some ⟨c, 0, none⟩), .int .i64 x, .int .i64 o] w fun e w' => e = .returned (.int .i64 1) ∧ ∃ q, w' = w.drewN q := by
  have d0 := h.c0
  have d1 := h.c1
  have hh := h.hi
  obtain ⟨t, ht, ht2, ht4⟩ : ∃ t : Nat, (2 : Int) ^ o = (t : Int) ∧ t ≤ 512 ∧ 0 < t := ⟨2 ^ o, by simp, by have := Bud.pow_le (show o ≤ 9 by omega); omega, Nat.two_pow_pos o⟩
  have g1 : decide ((o : Int) < 0) = false := by simp
  have g2 : decide ((9 : Int) < (o : Int)) = false := by simp; omega
  rw [ht] at hb
  clear h
  by_cases h1 : x.tmod (t : Int) = 0
  · by_cases h2 : x < fi
    · have g4 : decide (x < fi) = true := by simp; omega
      clear hb
      go_enter Try.func14, Try.ntmps14
      go_wp2_with fail
      go_quiet (fail)
      go_wp2
      go_ret
      exact ⟨rfl, _, rfl⟩
    · have g4 : decide (x < fi) = false := by simp; omega
      obtain ⟨d, hd⟩ : ∃ d, x - (fi : Int) = d := ⟨_, rfl⟩
      have g5 : decide ((n : Int) - (t : Int) < d) = true := by
        rw [decide_eq_true_eq]
        exact Classical.byContradiction fun hn' => hb ⟨h1, by omega, by omega⟩
      clear hb
      go_enter Try.func14, Try.ntmps14
      go_wp2_with fail
      go_quiet (fail)
      go_wp2
      go_ret
      exact ⟨rfl, _, rfl⟩
  · obtain ⟨r, hr⟩ : ∃ r, x.tmod (t : Int) = r := ⟨_, rfl⟩
    rw [hr] at h1
    have hwt : IntKind.i64.wrap (t : Int) = (t : Int) := IntWalk.i64_in _ (by omega)
    have ht6 : ¬ t = 0 := by omega
    have h3 : (r != 0) = true := by simp; exact h1
    clear h1 ht4
    clear hb
    go_enter Try.func14, Try.ntmps14
    go_wp2_with fail
    go_quiet (fail)
    go_wp2
    go_ret
    exact ⟨rfl, _, rfl⟩

def GsR (w : World) (S : Nat → Bool) (f t : Nat) (v : Value) (wr : World) : Prop := ∃ i : Nat, v = .int .i64 i ∧ i ≤ t ∧ (∀ j, j < i → S (f + j) = false) ∧ ∃ q, wr = w.drewN q
def moreI (S : Nat → Bool) (f t : Nat) : Nat → Bool := fun k => S k || (decide (f ≤ k) && decide (k < f + t))
theorem moreI_zero (S : Nat → Bool) (f : Nat) : moreI S f 0 = S := by
  funext k
  unfold moreI
  rw [show (decide (f ≤ k) && decide (k < f + 0)) = false by
    rw [Bool.and_eq_false_iff]
    by_cases h : f ≤ k
    · right; simp; omega
    · left; simp; omega]
  simp
theorem moreI_succ (S : Nat → Bool) (f t k : Nat) : moreI S f (t + 1) k = if k = f + t then true else moreI S f t k := by
  unfold moreI
  by_cases e : k = f + t
  · rw [if_pos e, show decide (f ≤ k) = true by simp; omega, show decide (k < f + (t + 1)) = true by simp; omega]; simp
  · rw [if_neg e, show decide (k < f + (t + 1)) = decide (k < f + t) by rw [Bool.eq_iff_iff, decide_eq_true_eq, decide_eq_true_eq]; omega]
def PtR (w : World) (W c g fi n : Nat) (S : Nat → Bool) (f t : Nat) (v : Value) (wr : World) : Prop := ∃ i : Nat, v = .int .i64 i ∧ i ≤ t ∧ RfTo w wr W c g fi n (moreI S f i)

set_option maxRecDepth 100000 in
set_option maxHeartbeats 4000000 in
theorem rgive_state (h : RfAt w W c g fi n S) (hn : n ≤ 1500) {f o : Nat} (ho : o < 10) (hal : f % 2 ^ o = 0) (h1 : fi ≤ f) (h2 : f + 2 ^ o ≤ fi + n) (hs : ∃ k, f ≤ k ∧ k < f + 2 ^ o ∧ S k = true) :
    Calls Try.prog 14 #[.pointer (some ⟨c, 0, none⟩), .int .i64 f, .int .i64 o] w fun e w' => e = .returned (.int .i64 20) ∧ ∃ q, w' = w.drewN q := by
  have HR := Lib.hid h
  have d0 := h.c0
  have d1 := h.c1
  have hh := h.hi
  obtain ⟨t, ht, ht2, ht3, ht4⟩ : ∃ t : Nat, (2 : Int) ^ o = (t : Int) ∧ t ≤ 512 ∧ t = 2 ^ o ∧ 0 < t := ⟨2 ^ o, by simp, by have := Bud.pow_le (show o ≤ 9 by omega); omega, rfl, Nat.two_pow_pos o⟩
  have g1 : decide ((o : Int) < 0) = false := by simp
  have g2 : decide ((9 : Int) < (o : Int)) = false := by simp; omega
  have g3 : decide ((f : Int) < (fi : Int)) = false := by simp; omega
  obtain ⟨d, hd, hd2⟩ : ∃ d : Nat, (f : Int) - (fi : Int) = (d : Int) ∧ d = f - fi := ⟨f - fi, by omega, rfl⟩
  have hdt : d + t ≤ n := by omega
  have g4 : decide ((n : Int) - (t : Int) < (d : Int)) = false := by simp; omega
  have hm : (f : Int).tmod (t : Int) = 0 := by rw [Int.tmod_eq_emod_of_nonneg (by omega)]; rw [← ht3] at hal; omega
  have HT := Lib.hid ht3
  have HX := Lib.hid hs
  have HD := Lib.hid hd2
  have hwo' : IntKind.u64.wrap (o : Int) = (o : Int) := IntWalk.u64_in _ (by omega)
  have hmn : min o 64 = o := by omega
  have hwt : IntKind.i64.wrap (t : Int) = (t : Int) := IntWalk.i64_in _ (by omega)
  have ht6 : ¬ t = 0 := by omega
  have hff : f ≤ 1048576 := by omega
  have g3' : decide (f < fi) = false := by simp; omega
  have hwd : IntKind.i64.wrap (d : Int) = (d : Int) := IntWalk.i64_in _ (by omega)
  have hwn : IntKind.i64.wrap ((n : Int) - (t : Int)) = (n : Int) - (t : Int) := IntWalk.i64_in _ (by omega)
  clear h ht3 hal hs hd2 h2
  go_enter Try.func14, Try.ntmps14
  go_wp2_with fail
  go_quiet (fail)
  go_wp2_with fail
  obtain ⟨wo, hwo⟩ : ∃ wo : World, wo = w.drewN nq := ⟨_, rfl⟩
  have HRW := Lib.hid (HR.out.drewN nq)
  rw [← hwo] at HRW ⊢
  have HWO := Lib.hid hwo
  clear hwo d0 d1 HR
  go_loopw [7] (GsR wo S f t) (fun v _ => t - cntI v)
  case atStart => exact ⟨0, rfl, Nat.zero_le _, fun j hj => by omega, 0, rfl⟩
  case round =>
    obtain ⟨i, rfl, hit, hfree, q, rfl⟩ := hrel
    have HFR := Lib.hid hfree
    clear hfree
    by_cases hlt : i < t
    · have g5 : decide ((i : Int) < (t : Int)) = true := by simp; omega
      have g6 : decide (i < t) = true := by simp; omega
      obtain ⟨k, hk, hk2⟩ : ∃ k : Nat, (f : Int) + (i : Int) = (k : Int) ∧ k = f + i := ⟨f + i, by omega, rfl⟩
      have CH := rhas (HRW.out.drewN q) (k : Int) (by omega)
      rw [hasF_nat] at CH
      have HK := Lib.hid hk2
      clear hk2
      cases hS : S k
      · rw [hS] at CH
        have HN := Lib.hid (show ∀ j, j < i + 1 → S (f + j) = false from fun j hj => by
          by_cases e : j = i
          · rw [e, ← HK.out]; exact hS
          · exact HFR.out j (by omega))
        clear hS
        go_wp2_with fail
        refine CH.mono ?_
        rintro e w1 ⟨rfl, q2, rfl⟩
        clear CH
        go_wp2
        go_roundw
        case rel => exact ⟨i + 1, by go_num, by omega, HN.out, _, rfl⟩
        case measure => simp [cntI]; omega
      · rw [hS] at CH
        clear hS
        go_wp2_with fail
        refine CH.mono ?_
        rintro e w1 ⟨rfl, q2, rfl⟩
        clear CH
        go_wp2
        go_ret
        exact ⟨rfl, nq + (q + q2), by rw [HWO.out, World.drewN_drewN]⟩
    · exfalso
      obtain ⟨k, k1, k2, k3⟩ := HX.out
      rw [← HT.out] at k2
      have := HFR.out (k - f) (by omega)
      rw [show f + (k - f) = k by omega, k3] at this
      cases this

set_option maxRecDepth 100000 in
set_option maxHeartbeats 4000000 in
theorem rgive_ok (h : RfAt w W c g fi n S) (hn : n ≤ 1500) {f o : Nat} (ho : o < 10) (hal : f % 2 ^ o = 0) (h1 : fi ≤ f) (h2 : f + 2 ^ o ≤ fi + n) (hs : ∀ k, f ≤ k → k < f + 2 ^ o → S k = false) :
    Calls Try.prog 14 #[.pointer (some ⟨c, 0, none⟩), .int .i64 f, .int .i64 o] w fun e w' => e = .returned (.int .i64 0) ∧ RfTo w w' W c g fi n (Bud.more S f o) := by
  have HR := Lib.hid h
  have d0 := h.c0
  have d1 := h.c1
  have hh := h.hi
  obtain ⟨t, ht, ht2, ht3, ht4⟩ : ∃ t : Nat, (2 : Int) ^ o = (t : Int) ∧ t ≤ 512 ∧ t = 2 ^ o ∧ 0 < t := ⟨2 ^ o, by simp, by have := Bud.pow_le (show o ≤ 9 by omega); omega, rfl, Nat.two_pow_pos o⟩
  have g1 : decide ((o : Int) < 0) = false := by simp
  have g2 : decide ((9 : Int) < (o : Int)) = false := by simp; omega
  have g3 : decide ((f : Int) < (fi : Int)) = false := by simp; omega
  obtain ⟨d, hd, hd2⟩ : ∃ d : Nat, (f : Int) - (fi : Int) = (d : Int) ∧ d = f - fi := ⟨f - fi, by omega, rfl⟩
  have hdt : d + t ≤ n := by omega
  have g4 : decide ((n : Int) - (t : Int) < (d : Int)) = false := by simp; omega
  have hm : (f : Int).tmod (t : Int) = 0 := by rw [Int.tmod_eq_emod_of_nonneg (by omega)]; rw [← ht3] at hal; omega
  have HT := Lib.hid ht3
  have HX := Lib.hid hs
  have HD := Lib.hid hd2
  have hwo' : IntKind.u64.wrap (o : Int) = (o : Int) := IntWalk.u64_in _ (by omega)
  have hmn : min o 64 = o := by omega
  have hwt : IntKind.i64.wrap (t : Int) = (t : Int) := IntWalk.i64_in _ (by omega)
  have ht6 : ¬ t = 0 := by omega
  have hff : f ≤ 1048576 := by omega
  have g3' : decide (f < fi) = false := by simp; omega
  have hwd : IntKind.i64.wrap (d : Int) = (d : Int) := IntWalk.i64_in _ (by omega)
  have hwn : IntKind.i64.wrap ((n : Int) - (t : Int)) = (n : Int) - (t : Int) := IntWalk.i64_in _ (by omega)
  clear h ht3 hal hs hd2 h2
  go_enter Try.func14, Try.ntmps14
  go_wp2_with fail
  go_quiet (fail)
  go_wp2_with fail
  obtain ⟨wo, hwo⟩ : ∃ wo : World, wo = w.drewN nq := ⟨_, rfl⟩
  have HRW := Lib.hid (HR.out.drewN nq)
  rw [← hwo] at HRW ⊢
  have HWO := Lib.hid hwo
  clear hwo d0 d1 HR
  go_loopw [7] (GsR wo S f t) (fun v _ => t - cntI v)
  case atStart => exact ⟨0, rfl, Nat.zero_le _, fun j hj => by omega, 0, rfl⟩
  case round =>
    obtain ⟨i, rfl, hit, hfree, q, rfl⟩ := hrel
    have HFR := Lib.hid hfree
    clear hfree
    by_cases hlt : i < t
    · have g5 : decide ((i : Int) < (t : Int)) = true := by simp; omega
      have g6 : decide (i < t) = true := by simp; omega
      obtain ⟨k, hk, hk2⟩ : ∃ k : Nat, (f : Int) + (i : Int) = (k : Int) ∧ k = f + i := ⟨f + i, by omega, rfl⟩
      have CH := rhas (HRW.out.drewN q) (k : Int) (by omega)
      have hS : S k = false := HX.out k (by omega) (by rw [← HT.out]; omega)
      rw [hasF_nat, hS] at CH
      have HN := Lib.hid (show ∀ j, j < i + 1 → S (f + j) = false from fun j hj => by
        by_cases e : j = i
        · rw [e, ← hk2]; exact hS
        · exact HFR.out j (by omega))
      clear hk2 hS
      go_wp2_with fail
      refine CH.mono ?_
      rintro e w1 ⟨rfl, q2, rfl⟩
      clear CH
      go_wp2
      go_roundw
      case rel => exact ⟨i + 1, by go_num, by omega, HN.out, _, rfl⟩
      case measure => simp [cntI]; omega
    · obtain rfl : i = t := by omega
      have g5 : decide ((i : Int) < (i : Int)) = false := by simp
      have HRQ := Lib.hid (show RfTo w (wo.drewN q) W c g fi n S from ⟨HRW.out.drewN q, by rw [HWO.out]; exact ((Only.refl _ _).drewN _).drewN _⟩)
      generalize wo.drewN q = w5 at *
      clear HFR
      go_wp2_with fail
      go_loopw [8] (PtR w W c g fi n S f i) (fun v _ => i - cntI v)
      case atStart => exact ⟨0, rfl, Nat.zero_le _, by rw [moreI_zero]; exact HRQ.out⟩
      case round =>
        clear HRQ
        obtain ⟨j, rfl, hj, hrf⟩ := hrel
        have HRJ := Lib.hid hrf
        clear hrf
        by_cases hji : j < i
        · have k5 : decide ((j : Int) < (i : Int)) = true := by simp; omega
          have k6 : decide (j < i) = true := by simp; omega
          obtain ⟨x, hx, hx2⟩ : ∃ x : Nat, (d : Int) + (j : Int) = (x : Int) ∧ x = d + j := ⟨d + j, by omega, rfl⟩
          have hxn : x < n := by omega
          have hxn2 : (x : Int) < (n : Int) := by omega
          have c0 := HRJ.out.1.c0
          have c1 := HRJ.out.1.c1
          have cw := HRJ.out.1.cell hxn
          have cz := HRJ.out.1.frozen x
          have cz0 := HRJ.out.1.blk.frozen 0
          have cz1 := HRJ.out.1.blk.frozen 1
          have HS9 := Lib.hid (HRJ.out.1.set (S' := moreI S f (j + 1)) hxn true (fun k => by rw [moreI_succ, show fi + x = f + j by have := HD.out; omega]))
          clear hx2
          go_wp2_with fail
          go_region
          all_goals go_wp2
          exact ⟨⟨j + 1, by go_num, by omega, HS9.out.1.drewN 1, (HRJ.out.2.trans HS9.out.2).drewN 1⟩, by simp [cntI]; omega⟩
        · obtain rfl : j = i := by omega
          have k5 : decide ((j : Int) < (j : Int)) = false := by simp
          go_wp2
          go_ret
          refine ⟨rfl, ?_⟩
          have := HRJ.out
          rw [HT.out] at this
          exact this
end
end Go.Proofs.Ytmmjkebhcihjlaa
