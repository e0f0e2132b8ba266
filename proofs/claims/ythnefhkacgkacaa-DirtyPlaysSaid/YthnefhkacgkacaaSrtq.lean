/- pdqsortOrdered's helpers at words: choosePivot: any place of the stretch, any hint. -/
import Derived.Test.YthnefhkacgkacaaSrtp
namespace Go.Proofs.Ythnefhkacgkacaa
open Go.RowKit
section
variable {w : World} {base g n cap : Nat} {d : List Int}

set_option maxRecDepth 100000 in
set_option maxHeartbeats 4000000 in
theorem choose_u (off a b L q : Nat) (hoff : off = 0) (h : RowW w base g n cap d) (hL : b = a + L) (hL0 : 0 < L) (hq : q = L / 4) (hb : b ≤ n) (hsz : n < 4611686018427387904) :
    Calls Try.prog 30 #[.slice (some ⟨g, off, none⟩) n cap, .int .i64 a, .int .i64 b] w fun e w' =>
      (∃ x k : Nat, e = .returned (.tuple #[.int .i64 x, .int .i64 k]) ∧ (a ≤ x ∧ x < b) ∧ k ≤ 2) ∧ Below w.heap.size w w' := by
  have CM := Lib.hid (show ∀ (X Y Z : Int) (wr : World) (x y z : Nat), X = x ∧ Y = y ∧ Z = z → PivS w wr → (a ≤ x ∧ x < b) → (a ≤ y ∧ y < b) → (a ≤ z ∧ z < b) →
      Calls Try.prog 42 #[.slice (some ⟨g, off, none⟩) n cap, .int .i64 X, .int .i64 Y, .int .i64 Z, .pointer (some ⟨w.heap.size, 0, none⟩)] wr fun e w' => (∃ x : Nat, e = .returned (.int .i64 x) ∧ a ≤ x ∧ x < b) ∧ PivS w w' from by
    rintro _ _ _ wr x y z ⟨rfl, rfl, rfl⟩ hp hx hy hz
    exact median_u (wr := wr) off a b x y z hoff h hp hx hy hz hb hsz)
  have CA := Lib.hid (show ∀ (X : Int) (wr : World) (x : Nat), X = x → PivS w wr → (a + 1 ≤ x ∧ x + 1 < b) →
      Calls Try.prog 41 #[.slice (some ⟨g, off, none⟩) n cap, .int .i64 X, .pointer (some ⟨w.heap.size, 0, none⟩)] wr fun e w' => (∃ x : Nat, e = .returned (.int .i64 x) ∧ a ≤ x ∧ x < b) ∧ PivS w w' from by
    rintro _ wr x rfl hp hx
    exact medadj_u (wr := wr) off a b x hoff h hp hx hb hsz)
  have hba : (b : Int) - (a : Int) = (L : Int) := by omega
  have hdq : (L : Int).tdiv 4 = (q : Int) := by subst hq; rfl
  have HI := Lib.hid (show a ≤ a + q ∧ a + q < b by omega)
  have HJ := Lib.hid (show a ≤ a + q * 2 ∧ a + q * 2 < b by omega)
  have HK := Lib.hid (show a ≤ a + q * 3 ∧ a + q * 3 < b by omega)
  have H8 := Lib.hid (show 8 ≤ L → (a + 1 ≤ a + q ∧ a + q + 1 < b) ∧ (a + 1 ≤ a + q * 2 ∧ a + q * 2 + 1 < b) ∧ (a + 1 ≤ a + q * 3 ∧ a + q * 3 + 1 < b) by omega)
  have b1 : a + q * 1 < b := by omega
  have b2 : a + q * 2 < b := by omega
  have b3 : a + q * 3 < b := by omega
  have b4 : a + L < 4611686018427387904 := by omega
  clear h hoff hL hq hL0
  have H0 := Lib.hid (show PivS w (w.alloc (.cells #[.int .i64 0] 3)) from ⟨⟨0, Blk.new w _ _⟩, (Below.refl _ w).alloc (Nat.le_refl _) _⟩)
  go_enter Try.func30, Try.ntmps30
  by_cases h8 : 8 ≤ L
  · have A1 := Lib.hid (H8.out h8)
    by_cases h50 : 50 ≤ L
    · go_wp2_with fail
      refine (CA.out _ _ (a + q) (by omega) H0.out A1.out.1).mono ?_; rintro e w1 ⟨⟨i', rfl, hi'⟩, hp1⟩
      have HP1 := Lib.hid hp1
      have HI' := Lib.hid hi'
      clear hp1 hi'
      go_wp2_with fail
      refine (CA.out _ _ (a + q * 2) (by omega) HP1.out A1.out.2.1).mono ?_; rintro e w2 ⟨⟨j', rfl, hj'⟩, hp2⟩
      have HP2 := Lib.hid hp2
      have HJ' := Lib.hid hj'
      clear hp2 hj'
      go_wp2_with fail
      refine (CA.out _ _ (a + q * 3) (by omega) HP2.out A1.out.2.2).mono ?_; rintro e w3 ⟨⟨k', rfl, hk'⟩, hp3⟩
      have HP := Lib.hid hp3
      have HK' := Lib.hid hk'
      clear hp3 hk'
      go_wp2_with fail
      refine (CM.out _ _ _ _ i' j' k' ⟨rfl, rfl, rfl⟩ HP.out HI'.out HJ'.out HK'.out).mono ?_; rintro e w4 ⟨⟨x, rfl, hx⟩, ⟨s, hs⟩, hbl⟩
      have HB := Lib.hid hbl
      have s0 := hs.cell 0
      have z0' := hs.frozen 0
      have HX := Lib.hid hx
      clear hs hbl hx
      by_cases z0 : s = 0
      · subst z0
        go_wp2
        go_ret2
        exact ⟨⟨x, 1, rfl, HX.out, by omega⟩, HB.out⟩
      · by_cases z12 : s = 12
        · subst z12
          go_wp2
          go_ret2
          exact ⟨⟨x, 2, rfl, HX.out, by omega⟩, HB.out⟩
        · go_wp2
          go_ret2
          exact ⟨⟨x, 0, rfl, HX.out, by omega⟩, HB.out⟩
    · go_wp2_with fail
      have HP := H0
      refine (CM.out _ _ _ _ (a + q) (a + q * 2) (a + q * 3) (by omega) HP.out HI.out HJ.out HK.out).mono ?_; rintro e w4 ⟨⟨x, rfl, hx⟩, ⟨s, hs⟩, hbl⟩
      have HB := Lib.hid hbl
      have s0 := hs.cell 0
      have z0' := hs.frozen 0
      have HX := Lib.hid hx
      clear hs hbl hx
      by_cases z0 : s = 0
      · subst z0
        go_wp2
        go_ret2
        exact ⟨⟨x, 1, rfl, HX.out, by omega⟩, HB.out⟩
      · by_cases z12 : s = 12
        · subst z12
          go_wp2
          go_ret2
          exact ⟨⟨x, 2, rfl, HX.out, by omega⟩, HB.out⟩
        · go_wp2
          go_ret2
          exact ⟨⟨x, 0, rfl, HX.out, by omega⟩, HB.out⟩
  · go_wp2
    go_ret2
    exact ⟨⟨a + q * 2, 1, by go_num, HJ.out, by omega⟩, H0.out.2⟩
end
end Go.Proofs.Ythnefhkacgkacaa
