/- slices.Sort of words, for slices up to 12. -/
import Derived.Test.YthnefhkacgkacaaSrtw
import Derived.Ground.NamesProg
import Derived.Shelf.Lay
import Derived.Shelf.Small.Bits
namespace Go.Proofs
open Go.Shelf
def Try.lays125_ren : Go.Shelf.Ren := ⟨fun | 125 => 26 | 128 => 36 | 129 => 37 | n => n, fun | 46 => 55 | 3 => 3 | 51 => 65 | 53 => 29 | 4 => 4 | 5 => 5 | 9 => 9 | n => n, fun | n => n⟩
theorem Try.lays125 : Go.Proofs.Lays.n125 Try.prog Try.lays125_ren where
  mixed := by kernel_rfl
  f125 := Try.func26.trans (congrArg some (by kernel_rfl))
  f128 := Try.func36.trans (congrArg some (by kernel_rfl))
  f129 := Try.func37.trans (congrArg some (by kernel_rfl))
  t3 := Try.underlying3
  a3 := Try.isAgg3
  z3 := Try.sizeOf3
  v3 := Try.zeroValue3
  t4 := Try.underlying4
  a4 := Try.isAgg4
  z4 := Try.sizeOf4
  v4 := Try.zeroValue4
  t5 := Try.underlying5
  a5 := Try.isAgg5
  z5 := Try.sizeOf5
  v5 := Try.zeroValue5
  t9 := Try.underlying9
  a9 := Try.isAgg9
  z9 := Try.sizeOf9
  v9 := Try.zeroValue9
  t46 := Try.underlying55
  a46 := Try.isAgg55
  z46 := Try.sizeOf55
  v46 := Try.zeroValue55
  t51 := Try.underlying65
  a51 := Try.isAgg65
  z51 := Try.sizeOf65
  v51 := Try.zeroValue65
  t53 := Try.underlying29
  a53 := Try.isAgg29
  z53 := Try.sizeOf29
  v53 := Try.zeroValue29

namespace Ythnefhkacgkacaa
open Go.RowKit

theorem len_u (k : Nat) (hk : k < 4611686018427387904) (w : World) : Calls Try.prog 26 #[.int .u64 k] w fun e w' => (∃ l : Nat, e = .returned (.int .i64 l) ∧ l ≤ 64) ∧ w' = w := by
  refine (Any.bits_Len Try.lays125 (k : Int) w (by omega) (by omega)).mono ?_
  rintro e w' ⟨rfl, rfl⟩
  exact ⟨⟨_, rfl, Lib.bitLen_le _ 64 (by omega) (by omega)⟩, rfl⟩

theorem insert_nil (p : Option Addr) (cap : Nat) (w : World) : Calls Try.prog 27 #[.slice p 0 cap, .int .i64 0, .int .i64 0] w fun e w' => e = .returned (.tuple #[]) ∧ w' = w := by
  go_enter Try.func27, Try.ntmps27
  go_wp2
  go_loopw [6] (fun v wr => v = .int .i64 1 ∧ wr = w) (fun _ _ => 0)
  case atStart => exact ⟨rfl, rfl⟩
  case round =>
    obtain ⟨rfl, rfl⟩ := hrel
    go_wp2
    go_end0
    exact ⟨rfl, rfl⟩

theorem pdq_nil (p : Option Addr) (cap l : Nat) (w : World) : Calls Try.prog 25 #[.slice p 0 cap, .int .i64 0, .int .i64 0, .int .i64 l] w fun e w' => e = .returned (.tuple #[]) ∧ w' = w := by
  go_enter Try.func25, Try.ntmps25
  go_wp2
  go_loopw [1, 2, 3, 8, 9] (fun a b m v8 v9 wr => a = .int .i64 0 ∧ b = .int .i64 0 ∧ m = .int .i64 l ∧ v8 = .bool true ∧ v9 = .bool true ∧ wr = w) (fun _ _ _ _ _ _ => 0)
  case atStart => exact ⟨rfl, rfl, rfl, rfl, rfl, rfl⟩
  case round =>
    obtain ⟨rfl, rfl, rfl, rfl, rfl, rfl⟩ := hrel
    go_wp2_with (go_at_call 27; refine (insert_nil _ _ _).mono ?_; rintro e w' ⟨rfl, rfl⟩)
    refine bodyPost_ret (results_none (by kernel_rfl) _ _ _) rfl ?_
    exact ⟨rfl, rfl⟩

theorem pdq_12 (base g n cap l : Nat) (d : List Int) (w : World) (h : w.ownsRow base 29 1 (.slice (some ⟨g, 0, none⟩) n cap) n (d.map (Value.int .u64))) (hn : n ≤ 12) :
    Calls Try.prog 25 #[.slice (some ⟨g, 0, none⟩) n cap, .int .i64 0, .int .i64 n, .int .i64 l] w fun e w' =>
      e = .returned (.tuple #[]) ∧ ∃ d', RowU w base g n cap d 0 n d' w' ∧ Srtd d' 0 n := by
  have c1 : ∀ W : World, W = w → Calls Try.prog 27 #[.slice (some ⟨g, 0, none⟩) n cap, .int .i64 0, .int .i64 n] W fun e w' =>
      e = .returned (.tuple #[]) ∧ ∃ d', RowU w base g n cap d 0 n d' w' ∧ Srtd d' 0 n := fun W e => by
    subst e
    exact insert_u base g 0 n cap 0 n rfl d W h (Nat.zero_le _) (Nat.le_refl _) (by omega)
  clear h
  go_enter Try.func25, Try.ntmps25
  go_wp2
  go_loopw [1, 2, 3, 8, 9] (fun a b m v8 v9 wr => a = .int .i64 0 ∧ b = .int .i64 n ∧ m = .int .i64 l ∧ v8 = .bool true ∧ v9 = .bool true ∧ wr = w) (fun _ _ _ _ _ _ => 0)
  case atStart => exact ⟨rfl, rfl, rfl, rfl, rfl, rfl⟩
  case round =>
    obtain ⟨rfl, rfl, rfl, rfl, rfl, rfl⟩ := hrel
    go_wp2_with (go_at_call 27; refine (c1 _ rfl).mono ?_; rintro e w' ⟨rfl, hfin⟩)
    refine bodyPost_ret (results_none (by kernel_rfl) _ _ _) rfl ?_
    exact ⟨rfl, hfin⟩

/-- slices.Sort, of a pdqsortOrdered that serves. -/
def PdqOk (m : Nat) : Prop := ∀ (base g n cap l : Nat) (d : List Int) (w : World), w.ownsRow base 29 1 (.slice (some ⟨g, 0, none⟩) n cap) n (d.map (Value.int .u64)) → n ≤ m → l ≤ 64 →
    Calls Try.prog 25 #[.slice (some ⟨g, 0, none⟩) n cap, .int .i64 0, .int .i64 n, .int .i64 l] w fun e w' =>
      e = .returned (.tuple #[]) ∧ ∃ d', RowU w base g n cap d 0 n d' w' ∧ Srtd d' 0 n

theorem srtU_of {d d' : List Int} (hp : d'.Perm d) (hs : d'.Pairwise fun a b => a ≤ b) : d' = srtU d :=
  List.Perm.eq_of_pairwise (le := fun a b => decide (a ≤ b) = true) (fun a b _ _ h1 h2 => by simp at h1 h2; omega)
    (hs.imp fun h => by simpa using h)
    (List.pairwise_mergeSort (fun a b c h1 h2 => by simp at h1 h2 ⊢; omega) (fun a b => by simp; omega) d)
    (hp.trans (List.mergeSort_perm d _).symm)

theorem sort_nil (p : Option Addr) (cap : Nat) (w : World) : Calls Try.prog 23 #[.slice p 0 cap] w fun e w' => e = .returned (.tuple #[]) ∧ w' = w := by
  have hl := len_u 0 (by omega)
  go_enter Try.func23, Try.ntmps23
  go_wp2_with (first
    | (go_at_call 26; refine (hl _).mono ?_; rintro e w' ⟨⟨l, rfl, hl⟩, rfl⟩)
    | (go_at_call 25; refine (pdq_nil _ _ _ _).mono ?_; rintro e w' ⟨rfl, rfl⟩))
  go_end0
  exact ⟨rfl, rfl⟩

theorem sort_row (m base g n cap : Nat) (d : List Int) (w : World) (hp : PdqOk m) (hm : m < 4611686018427387904) (h : w.ownsRow base 29 1 (.slice (some ⟨g, 0, none⟩) n cap) n (d.map (Value.int .u64))) (hn : n ≤ m) :
    Calls Try.prog 23 #[.slice (some ⟨g, 0, none⟩) n cap] w fun e w' =>
      e = .returned (.tuple #[]) ∧ ∃ d', RowU w base g n cap d 0 n d' w' ∧ Srtd d' 0 n := by
  have c1 := fun l hl => hp base g n cap l d w h hn hl
  have hnn : n < 4611686018427387904 := by omega
  have hL := len_u n hnn
  clear h hp
  go_enter Try.func23, Try.ntmps23
  go_wp2_with (first
    | (go_at_call 26; refine (hL _).mono ?_; rintro e w' ⟨⟨l, rfl, hl⟩, rfl⟩)
    | (go_at_call 25; refine (c1 _ hl).mono ?_; rintro e w' ⟨rfl, hfin⟩))
  go_end0
  exact ⟨rfl, hfin⟩

theorem sortOk_of (m : Nat) (hm : m < 4611686018427387904) (hp : PdqOk m) : SortOk m := by
  intro base v xs w hown hn
  rcases hown.2 with ⟨rfl, h0⟩ | ⟨g, cap, cur, rfl, _⟩
  · have e0 : xs = [] := List.eq_nil_of_length_eq_zero h0
    subst e0
    refine (sort_nil none 0 w).mono ?_
    rintro e w' ⟨rfl, rfl⟩
    exact ⟨rfl, by rw [show srtU [] = [] by unfold srtU; simp]; exact hown, World.grownBy.refl _ _⟩
  · refine (sort_row m base g xs.length cap xs w hp hm hown hn).mono ?_
    rintro e w' ⟨rfl, d', hr, hs⟩
    have e1 : d' = srtU xs := srtU_of hr.seg.perm (srtd_eq (by rw [hr.len]; exact hs))
    rw [← e1]
    exact ⟨rfl, hr.own, hr.grown⟩

theorem sortOk12 : SortOk 12 := sortOk_of 12 (by omega) fun base g n cap l d w h hn _ => pdq_12 base g n cap l d w h hn
end Ythnefhkacgkacaa
end Go.Proofs
