/- Package buddy: Give of what cannot be given. -/
import Derived.Test.YtmmjkebhcihjlaaBuw
namespace Go.Proofs.Ytmmjkebhcihjlaa
open Go.RowKit

set_option maxRecDepth 100000 in
set_option maxHeartbeats 4000000 in
theorem bgive_arg0 (c : Nat) (x y : Int) (w : World) (hy : y < 0 ∨ 10 ≤ y) :
    Calls Try.prog 13 #[.pointer (some ⟨c, 0, none⟩), .int .i64 x, .int .i64 y] w fun e w' => e = .returned (.int .i64 1) ∧ ∃ q, w' = w.drewN q := by
  rcases hy with hy | hy
  · have g1 : decide (y < 0) = true := by simp; omega
    go_enter Try.func13, Try.ntmps13
    go_wp2_with fail
    refine wp_scope_jumps 0 (fun _ _ => False) (fun _ _ => 0) rfl ?_ (fun _ _ h => h.elim)
    go_wp2_with fail
    go_quiet (fail)
    go_wp2
    simp only [Exit.jump]
    go_ret
    exact ⟨rfl, _, rfl⟩
  · have g1 : decide (y < 0) = false := by simp; omega
    have g2 : decide (10 ≤ y) = true := by simp; omega
    go_enter Try.func13, Try.ntmps13
    go_wp2_with fail
    refine wp_scope_jumps 0 (fun _ _ => False) (fun _ _ => 0) rfl ?_ (fun _ _ h => h.elim)
    go_wp2_with fail
    go_quiet (fail)
    go_wp2
    simp only [Exit.jump]
    go_ret
    exact ⟨rfl, _, rfl⟩

set_option maxRecDepth 100000 in
set_option maxHeartbeats 4000000 in
theorem bgive_arg (c base o : Nat) (x fi en fr : Int) (vs : Nat → Value) (R : Nat → List Int) (w : World) (h : BudAt w c base fi en fr vs R) (hen : 0 ≤ en) (hhi : en ≤ 2097152) (ho : o < 10) (hb : ¬ (x.tmod (2 ^ o) = 0 ∧ fi ≤ x ∧ x ≤ en - 2 ^ o)) :
    Calls Try.prog 13 #[.pointer (some ⟨c, 0, none⟩), .int .i64 x, .int .i64 o] w fun e w' => e = .returned (.int .i64 1) ∧ ∃ q, w' = w.drewN q := by
  have d0 : w.cell? ⟨c, 0, none⟩ = some (.int .i64 fi) := h.blk.cell 0
  have d1 : w.cell? ⟨c, 1, none⟩ = some (.int .i64 en) := h.blk.cell 1
  obtain ⟨t, ht, ht2, ht4⟩ : ∃ t : Nat, (2 : Int) ^ o = (t : Int) ∧ t ≤ 512 ∧ 0 < t := ⟨2 ^ o, by simp, by have := Bud.pow_le (show o ≤ 9 by omega); omega, Nat.two_pow_pos o⟩
  have g1 : decide ((o : Int) < 0) = false := by simp
  have g2 : decide ((10 : Int) ≤ (o : Int)) = false := by simp; omega
  rw [ht] at hb
  clear h
  by_cases h1 : x.tmod (t : Int) = 0
  · by_cases h2 : x < fi
    · have g4 : decide (x < fi) = true := by simp; omega
      clear hb
      go_enter Try.func13, Try.ntmps13
      go_wp2_with fail
      refine wp_scope_jumps 0 (fun _ _ => False) (fun _ _ => 0) rfl ?_ (fun _ _ h => h.elim)
      go_wp2_with fail
      go_quiet (fail)
      go_wp2
      simp only [Exit.jump]
      go_ret
      exact ⟨rfl, _, rfl⟩
    · have g4 : decide (x < fi) = false := by simp; omega
      have g5 : decide (en - (t : Int) < x) = true := by
        rw [decide_eq_true_eq]
        exact Classical.byContradiction fun hn => hb ⟨h1, by omega, by omega⟩
      clear hb
      go_enter Try.func13, Try.ntmps13
      go_wp2_with fail
      refine wp_scope_jumps 0 (fun _ _ => False) (fun _ _ => 0) rfl ?_ (fun _ _ h => h.elim)
      go_wp2_with fail
      go_quiet (fail)
      go_wp2
      simp only [Exit.jump]
      go_ret
      exact ⟨rfl, _, rfl⟩
  · obtain ⟨r, hr⟩ : ∃ r, x.tmod (t : Int) = r := ⟨_, rfl⟩
    have hr1 : -512 < r ∧ r < 512 := by
      have a := Int.natAbs_tmod x (t : Int)
      have b := Nat.mod_lt x.natAbs (show 0 < (t : Int).natAbs by omega)
      rw [hr] at a
      omega
    obtain ⟨hr2, hr3⟩ := hr1
    rw [hr] at h1
    have hwt : IntKind.i64.wrap (t : Int) = (t : Int) := IntWalk.i64_in _ (by omega)
    have ht6 : ¬ t = 0 := by omega
    have h3 : (r != 0) = true := by simp; exact h1
    clear h1 hr2 hr3 ht4
    clear hb
    go_enter Try.func13, Try.ntmps13
    go_wp2_with fail
    refine wp_scope_jumps 0 (fun _ _ => False) (fun _ _ => 0) rfl ?_ (fun _ _ h => h.elim)
    go_wp2_with fail
    go_quiet (fail)
    go_wp2
    simp only [Exit.jump]
    go_ret
    exact ⟨rfl, _, rfl⟩
end Go.Proofs.Ytmmjkebhcihjlaa
