/- BuddyPlays: bad and far arguments. -/
import Derived.Test.YtmmjkebhcihjlaaBuo
namespace Go.Proofs.Ytmmjkebhcihjlaa
open Go.RowKit

/-- The taken runs' numbers. -/
def Tb (T : List (Nat × Nat)) : Prop := ∀ x ∈ T, x.1 ≤ 1048576 ∧ x.2 ≤ 9
/-- The steps. -/
def PsR (w : World) (cp cq gq fi n : Nat) (vt vi : Value) (wr : World) : Prop := ∃ (i : Nat) (S : Nat → Bool) (B : Nat → Prop) (T : List (Nat × Nat)), vi = .int .i64 i ∧ i ≤ 60 ∧ T.length ≤ i ∧ Tb T ∧ Pl w wr cp cq gq fi n S S B vt T
/-- Behind the choice of a frame and an order. -/
def CtR (w : World) (cp cq gq fi n : Nat) (S : Nat → Bool) (B : Nat → Prop) (vt : Value) (T : List (Nat × Nat)) (gg : Nat) (cs : Array Value) (v15 v16 : Value) (wr : World) : Prop := ∃ X Y : Int, v15 = .int .i64 X ∧ v16 = .int .i64 Y ∧ X ≤ 9223372036854775807 ∧ Pg w wr cp cq gq fi n S S B vt T gg cs

theorem own_prs {w : World} {base n : Nat} {e : TypeId} {A : Option Addr} {m cc : Nat} {ts : List (Nat × Nat)} (h : w.ownsRow base e 2 (.slice A m cc) n (ts.flatMap pv)) : Prs w A ts := by
  obtain ⟨A', cc', e, h'⟩ := own_sl h
  injection e with e1 e2 e3
  subst e1
  exact h'

set_option maxRecDepth 100000 in
set_option maxHeartbeats 8000000 in
theorem buddyPlays_bad (A0 A1 : Int) (A : Option Addr) (m c : Nat) (w : World) (h : A0 < 0 ∨ 1048576 < A0 ∨ A1 < 0 ∨ 1048576 - A0 < A1) :
    Calls Try.prog 3 #[.int .i64 A0, .int .i64 A1, .slice A m c] w fun e w' => e = .returned (.bool true) ∧ Below w.heap.size w w' := by
  have C1 := Lib.hid (fun w' : World => lnew_bad A0 A1 w' h)
  have C2 := Lib.hid (fun w' : World => rnew_bad A0 A1 w' h)
  by_cases g1 : (1500 : Int) < A1
  · have g1' : decide ((1500 : Int) < A1) = true := by simp; omega
    by_cases g2 : 0 ≤ A0
    · have g2' : decide (0 ≤ A0) = true := by simp; omega
      by_cases g3 : A0 ≤ 1048576
      · have g3' : decide (A0 ≤ 1048576) = true := by simp; omega
        have g4' : decide (A1 ≤ 1048576 - A0) = false := by simp; omega
        clear h
        go_enter Try.func3, Try.ntmps3
        go_wp2_with fail
        refine (C1.out _).mono ?_; rintro e w1 ⟨rfl, rfl⟩
        go_wp2_with fail
        refine (C2.out _).mono ?_; rintro e w2 ⟨rfl, rfl⟩
        go_wp2_with fail
        go_loopw [12] (fun v wr => v = .int .i64 0 ∧ wr = w) (fun _ _ => 0)
        case atStart => exact ⟨rfl, rfl⟩
        case round =>
          obtain ⟨rfl, rfl⟩ := hrel
          by_cases hm0 : 0 < m
          · have k0 : decide ((0 : Int) < (m : Int)) = true := by simp; omega
            have k0' : decide (0 < m) = true := by simp; omega
            clear hm0
            go_wp2_with fail
            refine (told_any _).mono ?_; rintro e w7 ⟨rfl, hb7⟩
            go_wp2
            go_ret
            exact ⟨rfl, hb7⟩
          · have k0 : decide ((0 : Int) < (m : Int)) = false := by simp; omega
            have k0' : decide (0 < m) = false := by simp; omega
            clear hm0
            go_wp2_with fail
            refine (told_any _).mono ?_; rintro e w7 ⟨rfl, hb7⟩
            go_wp2
            go_ret
            exact ⟨rfl, hb7⟩
      · have g3' : decide (A0 ≤ 1048576) = false := by simp; omega
        clear h
        go_enter Try.func3, Try.ntmps3
        go_wp2_with fail
        refine (C1.out _).mono ?_; rintro e w1 ⟨rfl, rfl⟩
        go_wp2_with fail
        refine (C2.out _).mono ?_; rintro e w2 ⟨rfl, rfl⟩
        go_wp2_with fail
        go_loopw [12] (fun v wr => v = .int .i64 0 ∧ wr = w) (fun _ _ => 0)
        case atStart => exact ⟨rfl, rfl⟩
        case round =>
          obtain ⟨rfl, rfl⟩ := hrel
          by_cases hm0 : 0 < m
          · have k0 : decide ((0 : Int) < (m : Int)) = true := by simp; omega
            have k0' : decide (0 < m) = true := by simp; omega
            clear hm0
            go_wp2_with fail
            refine (told_any _).mono ?_; rintro e w7 ⟨rfl, hb7⟩
            go_wp2
            go_ret
            exact ⟨rfl, hb7⟩
          · have k0 : decide ((0 : Int) < (m : Int)) = false := by simp; omega
            have k0' : decide (0 < m) = false := by simp; omega
            clear hm0
            go_wp2_with fail
            refine (told_any _).mono ?_; rintro e w7 ⟨rfl, hb7⟩
            go_wp2
            go_ret
            exact ⟨rfl, hb7⟩
    · have g2' : decide (0 ≤ A0) = false := by simp; omega
      clear h
      go_enter Try.func3, Try.ntmps3
      go_wp2_with fail
      refine (C1.out _).mono ?_; rintro e w1 ⟨rfl, rfl⟩
      go_wp2_with fail
      refine (C2.out _).mono ?_; rintro e w2 ⟨rfl, rfl⟩
      go_wp2_with fail
      go_loopw [12] (fun v wr => v = .int .i64 0 ∧ wr = w) (fun _ _ => 0)
      case atStart => exact ⟨rfl, rfl⟩
      case round =>
        obtain ⟨rfl, rfl⟩ := hrel
        by_cases hm0 : 0 < m
        · have k0 : decide ((0 : Int) < (m : Int)) = true := by simp; omega
          have k0' : decide (0 < m) = true := by simp; omega
          clear hm0
          go_wp2_with fail
          refine (told_any _).mono ?_; rintro e w7 ⟨rfl, hb7⟩
          go_wp2
          go_ret
          exact ⟨rfl, hb7⟩
        · have k0 : decide ((0 : Int) < (m : Int)) = false := by simp; omega
          have k0' : decide (0 < m) = false := by simp; omega
          clear hm0
          go_wp2_with fail
          refine (told_any _).mono ?_; rintro e w7 ⟨rfl, hb7⟩
          go_wp2
          go_ret
          exact ⟨rfl, hb7⟩
  · have g1' : decide ((1500 : Int) < A1) = false := by simp; omega
    clear h
    go_enter Try.func3, Try.ntmps3
    go_wp2_with fail
    refine (C1.out _).mono ?_; rintro e w1 ⟨rfl, rfl⟩
    go_wp2_with fail
    refine (C2.out _).mono ?_; rintro e w2 ⟨rfl, rfl⟩
    go_wp2_with fail
    go_loopw [12] (fun v wr => v = .int .i64 0 ∧ wr = w) (fun _ _ => 0)
    case atStart => exact ⟨rfl, rfl⟩
    case round =>
      obtain ⟨rfl, rfl⟩ := hrel
      by_cases hm0 : 0 < m
      · have k0 : decide ((0 : Int) < (m : Int)) = true := by simp; omega
        have k0' : decide (0 < m) = true := by simp; omega
        clear hm0
        go_wp2_with fail
        refine (told_any _).mono ?_; rintro e w7 ⟨rfl, hb7⟩
        go_wp2
        go_ret
        exact ⟨rfl, hb7⟩
      · have k0 : decide ((0 : Int) < (m : Int)) = false := by simp; omega
        have k0' : decide (0 < m) = false := by simp; omega
        clear hm0
        go_wp2_with fail
        refine (told_any _).mono ?_; rintro e w7 ⟨rfl, hb7⟩
        go_wp2
        go_ret
        exact ⟨rfl, hb7⟩

set_option maxRecDepth 100000 in
theorem buddyPlays_far (A0 A1 : Int) (A : Option Addr) (m c : Nat) (w : World) (h1 : 1500 < A1) (h2 : 0 ≤ A0) (h3 : A0 ≤ 1048576) (h4 : A1 ≤ 1048576 - A0) :
    Calls Try.prog 3 #[.int .i64 A0, .int .i64 A1, .slice A m c] w fun e w' => e = .returned (.bool true) ∧ Below w.heap.size w w' := by
  have g1 : decide ((1500 : Int) < A1) = true := by simp; omega
  have g2 : decide (0 ≤ A0) = true := by simp; omega
  have g3 : decide (A0 ≤ 1048576) = true := by simp; omega
  have g4 : decide (A1 ≤ 1048576 - A0) = true := by simp; omega
  go_enter Try.func3, Try.ntmps3
  go_wp2_with fail
  refine (told_any _).mono ?_; rintro e w7 ⟨rfl, hb7⟩
  go_wp2
  go_ret
  exact ⟨rfl, hb7⟩

end Go.Proofs.Ytmmjkebhcihjlaa
