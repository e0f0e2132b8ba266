/- Package bits, as package phys calls it. -/
import Derived.Test.YtkpngkdkkcadfaaJmp
import Derived.Test.YtkpngkdkkcadfaaMem
import Derived.WalkKit
import Derived.Lib.Hide
namespace Go.Proofs.Ytkpngkdkkcadfaa
open Go.RowKit

theorem bsized8 (w : World) : Calls Try.prog 57 #[.int .i64 8] w fun e w' => e = .returned (.bool true) ∧ w = w' := by
  go_enter Try.func57, Try.ntmps57
  go_wp2_with fail
  refine wp_scope_n 5 ?_
  go_wp2_with fail
  refine wp_label ?_
  go_wp2_with fail
  refine wp_goto ?_
  refine jn_goto rfl ?_
  go_wp2_with fail
  refine wp_goto ?_
  refine jn_goto rfl ?_
  go_wp2_with fail
  refine wp_goto ?_
  refine jn_goto rfl ?_
  go_wp2_with fail
  refine wp_goto ?_
  refine jn_goto rfl ?_
  go_wp2_with fail
  refine jn_ret ?_
  go_ret
  exact ⟨rfl, rfl⟩
theorem bsized1 (w : World) : Calls Try.prog 57 #[.int .i64 1] w fun e w' => e = .returned (.bool true) ∧ w = w' := by
  go_enter Try.func57, Try.ntmps57
  go_wp2_with fail
  refine wp_scope_n 5 ?_
  go_wp2_with fail
  refine wp_label ?_
  go_wp2_with fail
  refine wp_goto ?_
  refine jn_goto rfl ?_
  go_wp2_with fail
  refine jn_ret ?_
  go_ret
  exact ⟨rfl, rfl⟩
theorem bsized {s : Nat} (hs : s = 1 ∨ s = 8) (w : World) : Calls Try.prog 57 #[.int .i64 s] w fun e w' => e = .returned (.bool true) ∧ w = w' := by
  rcases hs with rfl | rfl
  · exact bsized1 w
  · exact bsized8 w

theorem bcheck {s a : Nat} (hs : s = 1 ∨ s = 8) (ha : a % s = 0) (hb : a + s ≤ 4096) (A : Option Addr) (cc : Nat) (w : World) :
    Calls Try.prog 45 #[.slice A 4096 cc, .int .i64 a, .int .i64 s] w fun e w' => e = .returned (.int .i64 0) ∧ w = w' := by
  have C := Lib.hid (bsized hs w)
  have h1 : ((a : Int) % (s : Int)) = 0 := by omega
  have hs0 : ¬ s = 0 := by omega
  have h2 : decide ((a : Int) < 0) = false := by simp
  have h3 : decide ((4096 : Int) < (s : Int)) = false := by simp; omega
  obtain ⟨d, hd, hd2⟩ : ∃ d : Nat, (4096 : Int) - (s : Int) = (d : Int) ∧ a ≤ d := ⟨4096 - s, by omega, by omega⟩
  have h4 : decide ((a : Int) > (d : Int)) = false := by simp; omega
  have h4' : decide ((d : Int) < (a : Int)) = false := by simp; omega
  have h4'' : decide (d < a) = false := by simp; omega
  clear ha hb hs
  go_enter Try.func45, Try.ntmps45
  go_wp2_with fail
  refine C.out.mono ?_; rintro e w1 ⟨rfl, rfl⟩
  clear C
  go_wp2
  go_ret
  exact ⟨rfl, rfl⟩
end Go.Proofs.Ytkpngkdkkcadfaa
