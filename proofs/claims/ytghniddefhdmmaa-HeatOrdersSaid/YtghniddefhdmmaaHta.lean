/- What Right, parts, of, Touch and Fade of package heat do with whole numbers: contracts of each. -/
import Derived.Test.YtghniddefhdmmaaGpa
import Derived.Test.YtghniddefhdmmaaGof
import Derived.Test.YtghniddefhdmmaaGay0
import Derived.Test.YtghniddefhdmmaaGle
namespace Go.Proofs.Ytghniddefhdmmaa
open Go.RowKit Flo

theorem right_yes (a b : Nat) (n m : Int) (w : World) (ha : Is a n) (hb : Is b m) (h1 : 0 ≤ n ∧ n ≤ 1048576) (h2 : 0 ≤ m ∧ m ≤ 1048576) :
    Calls Try.prog 10 #[.complex .f64 a b] w fun e w' => e = .returned (.bool true) ∧ w = w' := by
  have HP := Lib.hid (fun W => parts_any a b n m W ha hb (by omega) (by omega))
  have d1 : decide (0 ≤ min n m) = true := by simp; omega
  have d2 : decide (max n m ≤ 1048576) = true := by simp; omega
  clear ha hb
  obtain ⟨l1, l2⟩ := h1
  obtain ⟨l3, l4⟩ := h2
  go_enter Try.func10, Try.ntmps10
  go_wp2_with fail
  refine (HP.out _).mono ?_; rintro e w' ⟨rfl, rfl⟩
  go_wp2
  all_goals
    go_ret
    exact ⟨by first | rfl | (simp; done) | (simp; omega), rfl⟩

theorem right_no (a b : Nat) (n m : Int) (w : World) (ha : Is a n) (hb : Is b m) (h1 : n.natAbs ≤ 4503599627370496) (h2 : m.natAbs ≤ 4503599627370496) (hno : ¬ (0 ≤ n ∧ n ≤ 1048576 ∧ 0 ≤ m ∧ m ≤ 1048576)) :
    Calls Try.prog 10 #[.complex .f64 a b] w fun e w' => e = .returned (.bool false) ∧ w = w' := by
  have HP := Lib.hid (fun W => parts_any a b n m W ha hb (by omega) (by omega))
  have HN := Lib.hid hno
  clear ha hb hno h1 h2
  go_enter Try.func10, Try.ntmps10
  go_wp2_with fail
  refine (HP.out _).mono ?_; rintro e w' ⟨rfl, rfl⟩
  go_wp2
  all_goals
    go_ret
    exact ⟨by have := HN.out; first | rfl | (simp; done) | (simp; omega), rfl⟩

theorem hparts_any (a b : Nat) (n m : Int) (w : World) (ha : Is a n) (hb : Is b m) (h1 : 0 ≤ n ∧ n ≤ 1048576) (h2 : 0 ≤ m ∧ m ≤ 1048576) :
    Calls Try.prog 17 #[.complex .f64 a b] w fun e w' => e = .returned (.tuple #[.int .i64 n, .int .i64 m]) ∧ w = w' := by
  have HR := Lib.hid (fun W => right_yes a b n m W ha hb h1 h2)
  have HP := Lib.hid (fun W => parts_any a b n m W ha hb (by omega) (by omega))
  clear ha hb h1 h2
  go_enter Try.func17, Try.ntmps17
  go_wp2_with fail
  refine (HR.out _).mono ?_; rintro e w' ⟨rfl, rfl⟩
  go_wp2_with fail
  refine (HP.out _).mono ?_; rintro e w' ⟨rfl, rfl⟩
  go_wp2
  go_ret2
  exact ⟨rfl, rfl⟩

theorem ret_cxF {n m u v : Int} (h1 : n = u) (h2 : m = v) : Ending.returned (.complex .f64 (F n) (F m)) = .returned (.complex .f64 (F u) (F v)) := by rw [h1, h2]

set_option maxHeartbeats 1000000 in
theorem hof_any (n m : Int) (w : World) (h1 : 0 ≤ n ∧ n ≤ 2000000) (h2 : 0 ≤ m ∧ m ≤ 2000000) :
    Calls Try.prog 18 #[.int .i64 n, .int .i64 m] w fun e w' => e = .returned (.complex .f64 (F (min n 1048576)) (F (min m 1048576))) ∧ w = w' := by
  obtain ⟨l1, l2⟩ := h1
  obtain ⟨l3, l4⟩ := h2
  go_enter Try.func18, Try.ntmps18
  go_wp2_with fail
  all_goals
    refine (of_any _ _ _ (by omega) (by omega)).mono ?_; rintro e w' ⟨rfl, rfl⟩
    go_wp2
    go_ret
    exact ⟨ret_cxF (by omega) (by omega), rfl⟩

/-- Behind a touch. -/
def tcR (n : Int) (s : Bool) : Int := if s then n else min (n + 1) 1048576
def tcW (m : Int) (s : Bool) : Int := if s then min (m + 1) 1048576 else m

theorem touch_any (a b : Nat) (n m : Int) (s : Bool) (w : World) (ha : Is a n) (hb : Is b m) (h1 : 0 ≤ n ∧ n ≤ 1048576) (h2 : 0 ≤ m ∧ m ≤ 1048576) :
    Calls Try.prog 9 #[.complex .f64 a b, .bool s] w fun e w' => e = .returned (.complex .f64 (F (tcR n s)) (F (tcW m s))) ∧ w = w' := by
  have HP := Lib.hid (fun W => hparts_any a b n m W ha hb h1 h2)
  clear ha hb
  cases s
  · have HO := Lib.hid (fun W => hof_any (n + 1) m W (by omega) (by omega))
    have e1 : tcR n false = min (n + 1) 1048576 := rfl
    have e2 : tcW m false = min m 1048576 := by unfold tcW; simp; omega
    rw [e1, e2]
    clear e1 e2
    obtain ⟨l1, l2⟩ := h1
    go_enter Try.func9, Try.ntmps9
    go_wp2_with fail
    refine (HP.out _).mono ?_; rintro e w' ⟨rfl, rfl⟩
    go_wp2_with fail
    refine (HO.out _).mono ?_; rintro e w' ⟨rfl, rfl⟩
    go_wp2
    go_ret
    exact ⟨rfl, rfl⟩
  · have HO := Lib.hid (fun W => hof_any n (m + 1) W (by omega) (by omega))
    have e1 : tcR n true = min n 1048576 := by unfold tcR; simp; omega
    have e2 : tcW m true = min (m + 1) 1048576 := rfl
    rw [e1, e2]
    clear e1 e2
    obtain ⟨l1, l2⟩ := h2
    go_enter Try.func9, Try.ntmps9
    go_wp2_with fail
    refine (HP.out _).mono ?_; rintro e w' ⟨rfl, rfl⟩
    go_wp2_with fail
    refine (HO.out _).mono ?_; rintro e w' ⟨rfl, rfl⟩
    go_wp2
    go_ret
    exact ⟨rfl, rfl⟩

theorem fade_any (a b : Nat) (n m : Int) (w : World) (ha : Is a n) (hb : Is b m) (h1 : 0 ≤ n ∧ n ≤ 1048576) (h2 : 0 ≤ m ∧ m ≤ 1048576) :
    Calls Try.prog 11 #[.complex .f64 a b] w fun e w' => e = .returned (.complex .f64 (F (n / 2)) (F (m / 2))) ∧ w = w' := by
  have HP := Lib.hid (fun W => hparts_any a b n m W ha hb h1 h2)
  have HO := Lib.hid (fun W => hof_any (n / 2) (m / 2) W (by omega) (by omega))
  have e1 : min (n / 2) 1048576 = n / 2 := by omega
  have e2 : min (m / 2) 1048576 = m / 2 := by omega
  rw [e1, e2] at HO
  clear ha hb e1 e2
  obtain ⟨l1, l2⟩ := h1
  obtain ⟨l3, l4⟩ := h2
  go_enter Try.func11, Try.ntmps11
  go_wp2_with fail
  refine (HP.out _).mono ?_; rintro e w' ⟨rfl, rfl⟩
  go_wp2_with fail
  refine (HO.out _).mono ?_; rintro e w' ⟨rfl, rfl⟩
  go_wp2
  go_ret
  exact ⟨rfl, rfl⟩
end Go.Proofs.Ytghniddefhdmmaa
