/- rotateCmpFunc of the library at int: two neighbouring stretches exchanged. -/
import Derived.Test.YtghniddefhdmmaaSwr
namespace Go.Proofs.Ytghniddefhdmmaa
open Go.RowKit

theorem RowI.mono {w wr : World} {base g n cap a b a' b' : Nat} {d0 d : List Int} (h : RowI w base g n cap d0 a b d wr) (ha : a' ≤ a) (hb : b ≤ b') : RowI w base g n cap d0 a' b' d wr := ⟨h.own, h.seg.mono ha hb, h.grown⟩

/-- What stood from m on up to b stands ahead of what stood from a on up to m. -/
def Rot (d : List Int) (a m b : Nat) (d' : List Int) : Prop := ∀ x, ele d' x = if a ≤ x ∧ x < a + (b - m) then ele d (x - a + m) else if a + (b - m) ≤ x ∧ x < b then ele d (x - (b - m)) else ele d x

theorem rot_left {d d2 d3 : List Int} {i j m : Nat} (hj : j < i) (hi : i ≤ m) (hs : Swr d (m - i) m j d2) (hr : Rot d2 (m - (i - j)) m (m + j) d3) : Rot d (m - i) m (m + j) d3 := by
  intro x
  rw [hr x]
  simp only [hs _]
  repeat' split
  all_goals exact congrArg (ele d) (by omega)
theorem rot_right {d d2 d3 : List Int} {i j m : Nat} (hj : i < j) (hi : i ≤ m) (hs : Swr d (m - i) (m + j - i) i d2) (hr : Rot d2 (m - i) m (m + (j - i)) d3) : Rot d (m - i) m (m + j) d3 := by
  intro x
  rw [hr x]
  simp only [hs _]
  repeat' split
  all_goals exact congrArg (ele d) (by omega)
theorem rot_done {d d2 : List Int} {i m : Nat} (hi : i ≤ m) (hs : Swr d (m - i) m i d2) : Rot d (m - i) m (m + i) d2 := by
  intro x
  rw [hs x]
  repeat' split
  all_goals exact congrArg (ele d) (by omega)

def RotR (w : World) (base g n cap : Nat) (d : List Int) (a m b : Nat) (v10 v11 : Value) (wr : World) : Prop := ∃ (i j : Nat) (d' : List Int), v10 = .int .i64 i ∧ v11 = .int .i64 j ∧ 0 < i ∧ 0 < j ∧ i ≤ m - a ∧ j ≤ b - m ∧ RowI w base g n cap d a b d' wr ∧ ∀ d'', Rot d' (m - i) m (m + j) d'' → Rot d a m b d''

set_option maxRecDepth 100000 in
set_option maxHeartbeats 8000000 in
theorem rot_any (base g n cap a m b : Nat) (f : Value) (d : List Int) (w : World) (h : RowX w base g n cap d) (ham : a < m) (hmb : m < b) (hb : b ≤ n) (hn : n ≤ 1000) :
    Calls Try.prog 35 #[.slice (some ⟨g, 0, none⟩) n cap, .int .i64 a, .int .i64 m, .int .i64 b, f] w fun e w' =>
      e = .returned (.tuple #[]) ∧ ∃ d', RowI w base g n cap d a b d' w' ∧ Rot d a m b d' := by
  have HW := Lib.hid h
  clear h
  go_enter Try.func35, Try.ntmps35
  go_wp2_with fail
  go_loopw [10, 11] (RotR w base g n cap d a m b) (fun u v _ => cnt u + cnt v)
  case atStart => exact ⟨m - a, b - m, d, by congr 1; omega, by congr 1; omega, by omega, by omega, by omega, by omega, RowI.start HW.out _ _, fun d'' hd => by
    rw [show m - (m - a) = a by omega, show m + (b - m) = b by omega] at hd; exact hd⟩
  case round =>
    obtain ⟨i, j, d', rfl, rfl, hi0, hj0, hi, hj, hrow, hsw⟩ := hrel
    have HR := Lib.hid hrow
    have HS := Lib.hid hsw
    clear hrow hsw
    have e1 : (m : Int) - (i : Int) = ((m - i : Nat) : Int) := by omega
    by_cases hne : i = j
    · subst hne
      go_wp2_with fail
      refine (swr_any base g 0 n cap (m - i) m i f rfl d' _ HR.out.own (by omega) (by omega) hn).mono ?_
      rintro e w1 ⟨rfl, d2, hr2, hs2⟩
      have HR2 := Lib.hid (HR.out.trans (hr2.mono (a' := a) (b' := b) (by omega) (by omega)) (Nat.le_refl _) (Nat.le_refl _))
      have HS2 := Lib.hid (HS.out _ (rot_done (by omega) hs2))
      clear hr2 hs2
      go_wp2
      go_end0
      exact ⟨rfl, d2, HR2.out, HS2.out⟩
    · by_cases hlt : j < i
      · have b1 : ((i : Int) != (j : Int)) = true := by simp; omega
        have b2 : decide ((j : Int) < (i : Int)) = true := by simp; omega
        go_wp2_with fail
        refine (swr_any base g 0 n cap (m - i) m j f rfl d' _ HR.out.own (by omega) (by omega) hn).mono ?_
        rintro e w1 ⟨rfl, d2, hr2, hs2⟩
        have HR2 := Lib.hid (HR.out.trans (hr2.mono (a' := a) (b' := b) (by omega) (by omega)) (Nat.le_refl _) (Nat.le_refl _))
        have HS2 := Lib.hid (fun d3 (h3 : Rot d2 (m - (i - j)) m (m + j) d3) => HS.out _ (rot_left hlt (by omega) hs2 h3))
        clear hr2 hs2
        go_wp2
        go_roundw
        case rel => exact ⟨i - j, j, d2, by congr 1; omega, rfl, by omega, by omega, by omega, by omega, HR2.out, HS2.out⟩
        case measure => simp [cnt]; omega
      · have b1 : ((i : Int) != (j : Int)) = true := by simp; omega
        have b2 : decide ((j : Int) < (i : Int)) = false := by simp; omega
        have e2 : (m : Int) + (j : Int) - (i : Int) = ((m + j - i : Nat) : Int) := by omega
        go_wp2_with fail
        refine (swr_any base g 0 n cap (m - i) (m + j - i) i f rfl d' _ HR.out.own (by omega) (by omega) hn).mono ?_
        rintro e w1 ⟨rfl, d2, hr2, hs2⟩
        have HR2 := Lib.hid (HR.out.trans (hr2.mono (a' := a) (b' := b) (by omega) (by omega)) (Nat.le_refl _) (Nat.le_refl _))
        have HS2 := Lib.hid (fun d3 (h3 : Rot d2 (m - i) m (m + (j - i)) d3) => HS.out _ (rot_right (by omega) (by omega) hs2 h3))
        clear hr2 hs2
        go_wp2
        go_roundw
        case rel => exact ⟨i, j - i, d2, rfl, by congr 1; omega, by omega, by omega, by omega, by omega, HR2.out, HS2.out⟩
        case measure => simp [cnt]; omega
end Go.Proofs.Ytghniddefhdmmaa
