/- Package buddy: Give. -/
import Derived.Test.YtmmjkebhcihjlaaBut
namespace Go.Proofs.Ytmmjkebhcihjlaa
open Go.RowKit

def GvR (w : World) (S : Nat → Bool) (f t : Nat) (v : Value) (wr : World) : Prop := ∃ i : Nat, v = .int .i64 i ∧ i ≤ t ∧ (∀ j, j < i → S (f + j) = false) ∧ ∃ q, wr = w.drewN q

set_option maxRecDepth 100000 in
set_option maxHeartbeats 4000000 in
theorem bgive_state (c base o f : Nat) (fi en fr : Int) (vs : Nat → Value) (R : Nat → List Int) (S : Nat → Bool) (w : World) (h : BudAt w c base fi en fr vs R) (hI : BInv S R) (hr : Rng S fi en) (ho : o < 10) (hal : f % 2 ^ o = 0) (h1 : fi ≤ f) (h2 : (f : Int) + 2 ^ o ≤ en) (hs : ∃ k, f ≤ k ∧ k < f + 2 ^ o ∧ S k = true) :
    Calls Try.prog 13 #[.pointer (some ⟨c, 0, none⟩), .int .i64 f, .int .i64 o] w fun e w' => e = .returned (.int .i64 20) ∧ ∃ q, w' = w.drewN q := by
  have HB := Lib.hid h
  have d0 : w.cell? ⟨c, 0, none⟩ = some (.int .i64 fi) := h.blk.cell 0
  have d1 : w.cell? ⟨c, 1, none⟩ = some (.int .i64 en) := h.blk.cell 1
  have hlo := hr.lo
  have hhi := hr.hi
  obtain ⟨t, ht, ht2, ht3, ht4⟩ : ∃ t : Nat, (2 : Int) ^ o = (t : Int) ∧ t ≤ 512 ∧ t = 2 ^ o ∧ 0 < t := ⟨2 ^ o, by simp, by have := Bud.pow_le (show o ≤ 9 by omega); omega, rfl, Nat.two_pow_pos o⟩
  have hm : (f : Int) % (t : Int) = 0 := by
    rw [ht3]
    have e : (f : Int) % ((2 ^ o : Nat) : Int) = ((f % 2 ^ o : Nat) : Int) := (Int.natCast_emod f (2 ^ o)).symm
    rw [e, hal]; rfl
  have g1 : decide ((o : Int) < 0) = false := by simp
  have g2 : decide ((10 : Int) ≤ (o : Int)) = false := by simp; omega
  have g3 : decide ((f : Int) < fi) = false := by simp; omega
  have g4 : decide (en - (t : Int) < (f : Int)) = false := by rw [ht] at h2; simp; omega
  have HX := Lib.hid hs
  have HR := Lib.hid hr
  have HI := Lib.hid hI
  have HT := Lib.hid ht3
  clear h hI hr hs ht3 hal
  go_enter Try.func13, Try.ntmps13
  go_wp2_with fail
  refine wp_scope_jumps 0 (fun _ _ => False) (fun _ _ => 0) rfl ?_ (fun _ _ h => h.elim)
  go_wp2_with fail
  go_quiet (fail)
  go_wp2_with fail
  obtain ⟨wo, hwo⟩ : ∃ wo : World, wo = w.drewN nq := ⟨_, rfl⟩
  have HBW := Lib.hid (HB.out.drewN nq)
  rw [← hwo] at HBW ⊢
  have HWO := Lib.hid hwo
  clear hwo d0 d1
  rw [hm]
  go_loopw [42] (GvR wo S f t) (fun v _ => t - cntI v)
  case atStart => exact ⟨0, rfl, Nat.zero_le _, fun j hj => by omega, 0, rfl⟩
  case round =>
    obtain ⟨i, rfl, hit, hfree, q, rfl⟩ := hrel
    have HFR := Lib.hid hfree
    clear hfree
    by_cases hlt : i < t
    · have g5 : decide ((i : Int) < (t : Int)) = true := by simp; omega
      have g6 : decide (i < t) = true := by simp; omega
      obtain ⟨y, hy, hy2⟩ : ∃ y : Nat, (f : Int) + (i : Int) = (y : Int) ∧ y = f + i := ⟨f + i, by omega, rfl⟩
      have HY := Lib.hid hy2
      have HH := Lib.hid (bhas_any c base fi en fr (y : Int) vs R S _ (HBW.out.drewN q) HI.out HR.out)
      clear hy2
      cases hS : S y
      · have HE := Lib.hid (show hasF S (y : Int) = false by unfold hasF; rw [Int.toNat_natCast, hS]; simp)
        have HN := Lib.hid (show ∀ j, j < i + 1 → S (f + j) = false from fun j hj => by
          by_cases e : j = i
          · rw [e, ← HY.out]; exact hS
          · exact HFR.out j (by omega))
        clear hS
        go_wp2_with fail
        refine HH.out.mono ?_
        rintro e w1 ⟨rfl, q2, rfl⟩
        rw [HE.out]
        go_wp2
        go_roundw
        case rel => exact ⟨i + 1, by go_num, by omega, HN.out, _, rfl⟩
        case measure => simp [cntI]; omega
      · have HE := Lib.hid (show hasF S (y : Int) = true by unfold hasF; rw [Int.toNat_natCast, hS]; simp)
        clear hS
        go_wp2_with fail
        refine HH.out.mono ?_
        rintro e w1 ⟨rfl, q2, rfl⟩
        rw [HE.out]
        go_wp2
        simp only [Exit.jump]
        go_ret
        exact ⟨rfl, nq + (q + q2), by rw [HWO.out, World.drewN_drewN]⟩
    · exfalso
      obtain ⟨k, k1, k2, k3⟩ := HX.out
      rw [← HT.out] at k2
      have := HFR.out (k - f) (by omega)
      rw [show f + (k - f) = k by omega, k3] at this
      cases this
end Go.Proofs.Ytmmjkebhcihjlaa
