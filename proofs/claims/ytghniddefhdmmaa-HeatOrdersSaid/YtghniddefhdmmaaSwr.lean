/- swapRangeCmpFunc of the library at int: two stretches exchanged. -/
import Derived.Test.YtghniddefhdmmaaHtd
namespace Go.Proofs.Ytghniddefhdmmaa
open Go.RowKit

/-- k places from a on and k from b on exchanged. -/
def Swr (d : List Int) (a b k : Nat) (d' : List Int) : Prop := ∀ j, ele d' j = if a ≤ j ∧ j < a + k then ele d (j - a + b) else if b ≤ j ∧ j < b + k then ele d (j - b + a) else ele d j

theorem Swr.zero (d : List Int) (a b : Nat) : Swr d a b 0 d := fun j => by rw [if_neg (by omega), if_neg (by omega)]

theorem Swr.step {d d' : List Int} {a b k : Nat} (h : Swr d a b k d') (hab : a + (k + 1) ≤ b) (hb : b + k < d'.length) : Swr d a b (k + 1) (swp d' (a + k) (b + k)) := by
  intro j
  rw [swp_ele (by omega) hb]
  by_cases h1 : j = b + k
  · rw [if_pos h1, h, if_neg (by omega), if_neg (by omega), if_neg (by omega), if_pos (by omega)]
    congr 1; omega
  · rw [if_neg h1]
    by_cases h2 : j = a + k
    · rw [if_pos h2, h, if_neg (by omega), if_neg (by omega), if_pos (by omega)]
      congr 1; omega
    · rw [if_neg h2, h]
      by_cases h3 : a ≤ j ∧ j < a + k
      · rw [if_pos h3, if_pos (by omega)]
      · rw [if_neg h3, if_neg (c := a ≤ j ∧ j < a + (k + 1)) (by omega)]
        by_cases h4 : b ≤ j ∧ j < b + k
        · rw [if_pos h4, if_pos (by omega)]
        · rw [if_neg h4, if_neg (by omega)]

def SwrR (w : World) (base g n cap : Nat) (d : List Int) (a b k : Nat) (v : Value) (wr : World) : Prop := ∃ (i : Nat) (d' : List Int), v = .int .i64 i ∧ i ≤ k ∧ RowI w base g n cap d a (b + k) d' wr ∧ Swr d a b i d'

set_option maxRecDepth 100000 in
set_option maxHeartbeats 8000000 in
theorem swr_any (base g off n cap a b k : Nat) (f : Value) (hoff : off = 0) (d : List Int) (w : World) (h : RowX w base g n cap d) (hab : a + k ≤ b) (hb : b + k ≤ n) (hn : n ≤ 1000) :
    Calls Try.prog 36 #[.slice (some ⟨g, off, none⟩) n cap, .int .i64 a, .int .i64 b, .int .i64 k, f] w fun e w' =>
      e = .returned (.tuple #[]) ∧ ∃ d', RowI w base g n cap d a (b + k) d' w' ∧ Swr d a b k d' := by
  have HO := Lib.hid hoff
  have HW := Lib.hid h
  clear hoff h
  go_enter Try.func36, Try.ntmps36
  go_wp2_with fail
  go_loopw [10] (SwrR w base g n cap d a b k) (fun v _ => k - cnt v)
  case atStart => exact ⟨0, d, rfl, Nat.zero_le _, RowI.start HW.out _ _, Swr.zero _ _ _⟩
  case round =>
    obtain ⟨i, d', rfl, hik, hrow, hsw⟩ := hrel
    have HR := Lib.hid hrow
    have HS := Lib.hid hsw
    clear hrow hsw
    by_cases hlt : i < k
    · have hcl : decide ((i : Int) < (k : Int)) = true := by simp; omega
      obtain ⟨x, hx⟩ : ∃ x, x = a + i := ⟨_, rfl⟩
      obtain ⟨y, hy⟩ : ∃ y, y = b + i := ⟨_, rfl⟩
      have hxn : x < n := by omega
      have hyn : y < n := by omega
      have ex : (a : Int) + (i : Int) = (x : Int) := by omega
      have ey : (b : Int) + (i : Int) = (y : Int) := by omega
      have HXY := Lib.hid (And.intro hx hy)
      have c1 : wr.cell? ⟨g, off + x, none⟩ = some (.int .i64 (ele d' x)) := by rw [HO.out, Nat.zero_add]; exact HR.out.cell x hxn
      have c2 : wr.cell? ⟨g, off + y, none⟩ = some (.int .i64 (ele d' y)) := by rw [HO.out, Nat.zero_add]; exact HR.out.cell y hyn
      have z1 : wr.frozen? ⟨g, off + x, none⟩ = false := by rw [HO.out, Nat.zero_add]; exact HR.out.frozen _
      have z2 : wr.frozen? ⟨g, off + y, none⟩ = false := by rw [HO.out, Nat.zero_add]; exact HR.out.frozen _
      clear hx hy
      go_wp2
      go_region
      all_goals go_wp2
      go_roundw
      case rel =>
        obtain ⟨e1, e2⟩ := HXY.out
        subst e1 e2
        refine ⟨i + 1, swp d' (a + i) (b + i), by go_num, by omega, ?_, HS.out.step (by omega) (by rw [HR.out.len]; omega)⟩
        rw [HO.out, Nat.zero_add, Nat.zero_add]
        exact (HR.out.swap ⟨by omega, by omega⟩ ⟨by omega, by omega⟩ hb).drew
      case measure => simp [cnt]; omega
    · have hcl : decide ((i : Int) < (k : Int)) = false := by simp; omega
      have HK := Lib.hid (show i = k by omega)
      go_wp2
      go_end0
      exact ⟨rfl, d', HR.out, HK.out ▸ HS.out⟩
end Go.Proofs.Ytghniddefhdmmaa
