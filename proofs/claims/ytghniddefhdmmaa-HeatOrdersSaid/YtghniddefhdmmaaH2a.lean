/- HeatCounts' walk. -/
import Derived.Test.YtghniddefhdmmaaHth
namespace Go.Proofs.Ytghniddefhdmmaa
open Go.RowKit Flo

theorem hbools_of {xs : List Value} (h : ∀ u ∈ xs, ∃ c, u = .bool c) : ∃ bs : List Bool, xs = bs.map Value.bool := by
  induction xs with
  | nil => exact ⟨[], rfl⟩
  | cons x xs ih =>
    obtain ⟨ls, rfl⟩ := ih fun u hu => h u (List.mem_cons_of_mem _ hu)
    obtain ⟨i, rfl⟩ := h _ (List.mem_cons_self ..)
    exact ⟨i :: ls, rfl⟩
theorem hbools_of_cells {xs : List Value} (h : ∀ j u k, xs[j]? = some u → ([CK.b])[j % ([CK.b]).length]? = some k → CellOk k u) : ∃ bs : List Bool, xs = bs.map Value.bool := by
  refine hbools_of fun u hu => ?_
  obtain ⟨j, hj⟩ := List.mem_iff_getElem?.1 hu
  exact h j u .b hj (by simp [Nat.mod_one])

/-- The steps so far. -/
def CntR (w : World) (n1 : Nat) (v5 v6 v7 v8 : Value) (wr : World) : Prop := ∃ (i : Nat) (re st : Int), v5 = .complex .f64 (F re) (F st) ∧ v6 = .int .i64 re ∧ v7 = .int .i64 st ∧ v8 = .int .i64 i ∧ i ≤ n1 ∧ i ≤ 60 ∧ 0 ≤ re ∧ re ≤ 1048576 ∧ 0 ≤ st ∧ st ≤ i ∧ Below w.heap.size w wr

set_option maxRecDepth 100000 in
set_option maxHeartbeats 4000000 in
theorem heatCounts_walk (a0 : Int) (A1 : Option Addr) (n1 c1 : Nat) (xs1 : List Value) (w : World) 
    (hr1 : Reads w w.heap.size 1 A1 n1 xs1) (hx1 : ∀ j u k, xs1[j]? = some u → ([CK.b])[j % ([CK.b]).length]? = some k → CellOk k u) (hn1 : n1 ≤ maxLen) :
    Calls Try.prog 5 #[.int .i64 a0, .slice A1 n1 c1] w fun e w' => e = .returned (.bool true) ∧ Below w.heap.size w w' := by
  obtain ⟨bs, rfl⟩ := hbools_of_cells hx1
  have HS := Lib.hid hr1
  have HN1 := Lib.hid hn1
  clear hx1 hr1 hn1
  obtain ⟨q, hq, hq32⟩ : ∃ q : Int, bits .and .i64 a0 31 = q ∧ 0 ≤ q ∧ q < 32 := ⟨a0 % 32, by rw [show (31 : Int) = 2 ^ 5 - 1 by decide, mask64 a0 5 (by decide)]; rfl, by omega, by omega⟩
  obtain ⟨hq0, hq1⟩ := hq32
  go_enter Try.func5, Try.ntmps5
  go_wp2_with fail
  refine (make_any _ _ _).mono ?_; rintro e w1 ⟨rfl, rfl⟩
  go_wp2_with fail
  go_loopw [5, 6, 7, 8] (CntR w n1) (fun _ _ _ v _ => 60 - cnt v)
  case atStart => exact ⟨0, 1048576 - q, 0, rfl, rfl, rfl, rfl, Nat.zero_le _, by omega, by omega, by omega, by omega, by omega, Below.refl _ _⟩
  case round =>
    obtain ⟨i, re, st, rfl, rfl, rfl, rfl, hi, hi60, hre0, hre1, hst0, hst1, hb⟩ := hrel
    have HB := Lib.hid hb
    clear hb
    by_cases hin1 : i < n1
    · by_cases hin2 : i < 60
      · obtain ⟨ad, rfl, hc⟩ := reads_b (HS.out.below HB.out) hin1
        cases hbb : bel bs i
        · rw [hbb] at hc
          clear hbb
          go_wp2_with fail
          refine (touch_any _ _ re st false _ (F_is _) (F_is _) ⟨by omega, by omega⟩ ⟨by omega, by omega⟩).mono ?_; rintro e w2 ⟨rfl, rfl⟩
          have e1 : tcR re false = min (re + 1) 1048576 := rfl
          have e2 : tcW st false = st := rfl
          rw [e1, e2]
          clear e1 e2
          have o2 := ord_eq (F_is st) (F_is st) (by omega) (by omega) rfl
          by_cases hm : re + 1 ≤ 1048576
          · rw [show min (re + 1) 1048576 = re + 1 by omega]
            have o1 := ord_eq (F_is (re + 1)) (F_is (re + 1)) (by omega) (by omega) rfl
            go_wp2_with fail
            refine (make_any _ _ _).mono ?_; rintro e w3 ⟨rfl, rfl⟩
            go_wp2_with fail
            refine (right_yes _ _ _ _ _ (F_is _) (F_is _) ⟨by omega, by omega⟩ ⟨by omega, by omega⟩).mono ?_; rintro e w3 ⟨rfl, rfl⟩
            go_wp2
            go_roundw
            case rel => exact ⟨i + 1, _, _, rfl, rfl, rfl, by go_num, by omega, by omega, by omega, by omega, by omega, by omega, HB.out⟩
            case measure => simp [cnt]; omega
          · obtain rfl : re = 1048576 := by omega
            rw [show min ((1048576 : Int) + 1) 1048576 = 1048576 by omega]
            have o1 := ord_eq (F_is 1048576) (F_is 1048576) (by omega) (by omega) rfl
            go_wp2_with fail
            refine (make_any _ _ _).mono ?_; rintro e w3 ⟨rfl, rfl⟩
            go_wp2_with fail
            refine (right_yes _ _ _ _ _ (F_is _) (F_is _) ⟨by omega, by omega⟩ ⟨by omega, by omega⟩).mono ?_; rintro e w3 ⟨rfl, rfl⟩
            go_wp2
            go_roundw
            case rel => exact ⟨i + 1, _, _, rfl, rfl, rfl, by go_num, by omega, by omega, by omega, by omega, by omega, by omega, HB.out⟩
            case measure => simp [cnt]; omega
        · rw [hbb] at hc
          clear hbb
          go_wp2_with fail
          refine (touch_any _ _ re st true _ (F_is _) (F_is _) ⟨by omega, by omega⟩ ⟨by omega, by omega⟩).mono ?_; rintro e w2 ⟨rfl, rfl⟩
          have e1 : tcR re true = re := rfl
          have e2 : tcW st true = st + 1 := by unfold tcW; simp; omega
          rw [e1, e2]
          clear e1 e2
          have o1 := ord_eq (F_is re) (F_is re) (by omega) (by omega) rfl
          have o2 := ord_eq (F_is (st + 1)) (F_is (st + 1)) (by omega) (by omega) rfl
          go_wp2_with fail
          refine (make_any _ _ _).mono ?_; rintro e w3 ⟨rfl, rfl⟩
          go_wp2_with fail
          refine (right_yes _ _ _ _ _ (F_is _) (F_is _) ⟨by omega, by omega⟩ ⟨by omega, by omega⟩).mono ?_; rintro e w3 ⟨rfl, rfl⟩
          go_wp2
          go_roundw
          case rel => exact ⟨i + 1, _, _, rfl, rfl, rfl, by go_num, by omega, by omega, by omega, by omega, by omega, by omega, HB.out⟩
          case measure => simp [cnt]; omega
      · go_wp2_with fail
        refine (told_any _).mono ?_; rintro e w2 ⟨rfl, hb2⟩
        have HB2 := Lib.hid (HB.out.trans (hb2.mono HB.out.size))
        clear hb2
        go_wp2
        go_ret
        exact ⟨rfl, HB2.out⟩
    · go_wp2_with fail
      refine (told_any _).mono ?_; rintro e w2 ⟨rfl, hb2⟩
      have HB2 := Lib.hid (HB.out.trans (hb2.mono HB.out.size))
      clear hb2
      go_wp2
      go_ret
      exact ⟨rfl, HB2.out⟩
end Go.Proofs.Ytghniddefhdmmaa
