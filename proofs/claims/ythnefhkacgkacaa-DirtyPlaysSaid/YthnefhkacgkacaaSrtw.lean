/- slices.Sort of words of 64 bits: cmp.Less and the sort by insertion, as a stretch of a list that the call owns. -/
import Derived.Test.YthnefhkacgkacaaDir3
import Derived.Test.YthnefhkacgkacaaSrt
import Derived.WalkKit
import Derived.BigGuard
import Derived.BigCall
import Derived.CellFam
import Derived.Deep.QuietTactic
import Derived.Deep.Draws
import Derived.BigQuiet
namespace Go.Proofs.Ythnefhkacgkacaa
open Go.RowKit

theorem nan_u (x : Int) (w : World) : Calls Try.prog 43 #[.int .u64 x] w fun e w' => e = .returned (.bool false) ∧ w' = w := by
  go_enter Try.func43, Try.ntmps43
  go_wp2
  go_ret
  exact ⟨by simp, rfl⟩

/-- Less, at words. -/
def ltU (x y : Int) : Bool := decide (x < y)
theorem ltU_t {x y : Int} (h : ltU x y = true) : x < y := of_decide_eq_true h
theorem ltU_f {x y : Int} (h : ltU x y = false) : y ≤ x := Int.not_lt.1 (of_decide_eq_false h)

theorem less_u (x y : Int) (w : World) : Calls Try.prog 33 #[.int .u64 x, .int .u64 y] w fun e w' => e = .returned (.bool (ltU x y)) ∧ w' = w := by
  go_enter Try.func33, Try.ntmps33
  go_wp2_with (go_at_call 43; refine (nan_u _ _).mono ?_; rintro e w' ⟨rfl, rfl⟩)
  go_ret
  exact ⟨rfl, rfl⟩

/-- The row holds d, which came of d0 by turns in w's own block g between a and b. -/
structure RowU (w : World) (base g n cap : Nat) (d0 : List Int) (a b : Nat) (d : List Int) (wr : World) : Prop where
  own : wr.ownsRow base 29 1 (.slice (some ⟨g, 0, none⟩) n cap) n (d.map (Value.int .u64))
  seg : Seg d0 d a b
  grown : w.grownBy wr (some g)

section
variable {w wr : World} {base g n cap a b : Nat} {d0 d : List Int}
theorem RowU.len (h : RowU w base g n cap d0 a b d wr) : d.length = n := by have := h.own.1; simpa using this
theorem RowU.len0 (h : RowU w base g n cap d0 a b d wr) : d0.length = n := by rw [← h.len, h.seg.len]
theorem RowU.start (h : w.ownsRow base 29 1 (.slice (some ⟨g, 0, none⟩) n cap) n (d.map (Value.int .u64))) (a b : Nat) : RowU w base g n cap d a b d w := ⟨h, Seg.refl _ _ _, World.grownBy.refl _ _⟩
theorem RowU.cell (h : RowU w base g n cap d0 a b d wr) (t : Nat) (ht : t < n) : wr.cell? ⟨g, t, none⟩ = some (.int .u64 (ele d t)) := by
  rw [h.own.cellAt t (by omega), List.getElem?_map, ele_some (by rw [h.len]; exact ht)]; rfl
theorem RowU.frozen (h : RowU w base g n cap d0 a b d wr) (t : Nat) : wr.frozen? ⟨g, t, none⟩ = false := h.own.frozenAt t
theorem RowU.drewN (h : RowU w base g n cap d0 a b d wr) (q : Nat) : RowU w base g n cap d0 a b d (wr.drewN q) := ⟨h.own, h.seg, only_drewN h.grown q⟩
theorem RowU.swap (h : RowU w base g n cap d0 a b d wr) {i j : Nat} (hi : a ≤ i ∧ i < b) (hj : a ≤ j ∧ j < b) (hb : b ≤ n) :
    RowU w base g n cap d0 a b (swp d i j) ((wr.setCell ⟨g, i, none⟩ (.int .u64 (ele d j))).setCell ⟨g, j, none⟩ (.int .u64 (ele d i))) := by
  refine ⟨?_, h.seg.swp hi hj (by rw [h.len0]; exact hb), only_setCell (only_setCell h.grown (.inl rfl) _) (.inl rfl) _⟩
  have h2 := ((h.own.stored i (.int .u64 (ele d j))).1.stored j (.int .u64 (ele d i))).1
  unfold swp
  rw [List.map_set, List.map_set]
  exact h2
end

def OutU (w : World) (base g n cap : Nat) (d0 : List Int) (a b : Nat) (v : Value) (wr : World) : Prop := ∃ (i : Nat) (d : List Int), v = .int .i64 i ∧ a < i ∧ i ≤ b + 1 ∧ RowU w base g n cap d0 a b d wr ∧ Srtd d a (if i ≤ b then i else b)
def InnU (w : World) (base g n cap : Nat) (d0 : List Int) (a b i : Nat) (v : Value) (wr : World) : Prop := ∃ (j : Nat) (d : List Int), v = .int .i64 j ∧ a ≤ j ∧ j ≤ i ∧ RowU w base g n cap d0 a b d wr ∧ Ins d a i j
/-- The count that a slot holds. -/
def cnt : Value → Nat | .int _ q => q.toNat | _ => 0

set_option maxRecDepth 100000 in
set_option maxHeartbeats 4000000 in
theorem insert_u (base g off n cap a b : Nat) (hoff : off = 0) (d : List Int) (w : World) (h : w.ownsRow base 29 1 (.slice (some ⟨g, 0, none⟩) n cap) n (d.map (Value.int .u64))) (hab : a ≤ b) (hb : b ≤ n) (hsz : n < 4611686018427387904) :
    Calls Try.prog 27 #[.slice (some ⟨g, off, none⟩) n cap, .int .i64 a, .int .i64 b] w fun e w' =>
      e = .returned (.tuple #[]) ∧ ∃ d', RowU w base g n cap d a b d' w' ∧ Srtd d' a b := by
  have HO := Lib.hid hoff
  clear hoff
  go_enter Try.func27, Try.ntmps27
  go_wp2
  go_loopw [6] (OutU w base g n cap d a b) (fun v _ => b + 1 - cnt v)
  case atStart => exact ⟨a + 1, d, by go_num, by omega, by omega, RowU.start h a b, fun p q h1 h2 h3 => by split at h3 <;> omega⟩
  case round =>
    obtain ⟨i, dk, rfl, hai, hib, hrow, hsd⟩ := hrel
    have HR := Lib.hid hrow
    have HS := Lib.hid hsd
    clear hrow hsd
    by_cases hlt : i < b
    · go_wp2
      go_loopw [7] (InnU w base g n cap d a b i) (fun v _ => cnt v)
      case atStart => exact ⟨i, dk, rfl, by omega, Nat.le_refl _, HR.out, Ins.start (by have := HS.out; rw [if_pos (by omega)] at this; exact this)⟩
      case round =>
        obtain ⟨j, dj, rfl, haj, hji, hrj, hin⟩ := hrel
        obtain ⟨G, hG⟩ : ∃ G : Nat → Int, ∀ t, G t = ele dj t := ⟨fun t => ele dj t, fun _ => rfl⟩
        have hcw : ∀ t, t < n → wr.cell? ⟨g, off + t, none⟩ = some (.int .u64 (G t)) := fun t ht => by rw [hG, HO.out, Nat.zero_add]; exact hrj.cell t ht
        have hfw : ∀ t, t < n → wr.frozen? ⟨g, off + t, none⟩ = false := fun t _ => by rw [HO.out, Nat.zero_add]; exact hrj.frozen t
        have HJ := Lib.hid hrj
        have HI := Lib.hid hin
        have HG := Lib.hid hG
        clear hrj hin hG h
        have OUT := Lib.hid (show Srtd dj a (i + 1) → ∀ q, OutU w base g n cap d a b (.int .i64 ((i : Int) + 1)) (wr.drewN q) from fun hs q =>
          ⟨i + 1, dj, by go_num, by omega, by omega, HJ.out.drewN q, by rw [if_pos (by omega)]; exact hs⟩)
        go_wp2
        by_cases hja : a < j
        · go_quiet (first | (go_at_call 33; refine Calls.quiet_of_same (less_u _ _ _)))
          go_wp2
          · have hl : ltU (G j) (G (j - 1)) = true := by assumption
            go_region
            all_goals go_wp2
            go_roundw
            case rel =>
              have hl' := ltU_t hl
              rw [HG.out, HG.out] at hl'
              refine ⟨j - 1, swp dj j (j - 1), by congr 1; omega, by omega, by omega, ?_, HI.out.step hja hji (by rw [HJ.out.len]; omega) hl'⟩
              rw [HG.out, HG.out, HO.out, Nat.zero_add, Nat.zero_add]
              exact (HJ.out.drewN (nq + 1)).swap ⟨by omega, by omega⟩ ⟨by omega, by omega⟩ hb
            case measure => simp [cnt]; omega
          · have hl : ltU (G j) (G (j - 1)) = false := by assumption
            go_roundw
            case rel => exact OUT.out (HI.out.done (by rw [HG.out, HG.out] at hl; exact ltU_f hl)) nq
            case measure => simp [cnt]; omega
        · go_quiet (first | (go_at_call 33; refine Calls.quiet_of_same (less_u _ _ _)))
          go_wp2
          go_roundw
          case rel => exact OUT.out (Ins.done0 ((show j = a by omega) ▸ HI.out)) nq
          case measure => simp [cnt]; omega
    · go_wp2
      go_end0
      refine ⟨rfl, dk, HR.out, ?_⟩
      have := HS.out
      split at this
      · have e : i = b := by omega
        rw [← e]; exact this
      · exact this
end Go.Proofs.Ythnefhkacgkacaa
