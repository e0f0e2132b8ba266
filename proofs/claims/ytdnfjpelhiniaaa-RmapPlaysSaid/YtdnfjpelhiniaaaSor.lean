/- The library's sort of ints, off the kit's shelf. -/
import Derived.Test.YtdnfjpelhiniaaaRows
import Derived.Test.YtdnfjpelhiniaaaMem
import Derived.Ground.Names2Prog
import Derived.Shelf.Lay
import Derived.Shelf.LaySoft
import Derived.Shelf.Sort.Plain
import Derived.Shelf.Slices.In.SortNone
import Derived.Sort.OwnSortedInts
namespace Go.Proofs
open Go.Shelf
shelf_lay Lays.n189 Nm 189 at Try as Try.lays189

open Go.Sort Go.RowKit in
theorem sort_some (blk off cap : Nat) (zs : List Int) (w : World) (hH : Holds (Value.int .i64) w blk off zs.toArray) (hblk : blk < w.heap.size) (hsz : zs.length < 4611686018427387904) :
    Calls Try.prog 23 #[.slice (some ⟨blk, off, none⟩) zs.length cap] w fun e w' =>
      e = .returned (.tuple #[]) ∧ ∃ n os, w' = grow (putRow (Value.int .i64) (Sort.ahead w n) blk off (zs.mergeSort fun x y => decide (x ≤ y)).toArray) os := Any.slices_Sort_int Try.lays189 blk off cap zs w hH hblk hsz

open Go.Sort Go.RowKit in
theorem sort_none (p : Option Addr) (cap : Nat) (w : World) :
    Calls Try.prog 23 #[.slice p 0 cap] w fun e w' => e = .returned (.tuple #[]) ∧ w' = w := Any.slices_Sort_int_none Try.lays189 p cap w

/-- The list in order. -/
def srt (l : List Int) : List Int := l.mergeSort fun x y => decide (x ≤ y)

theorem srt_len (l : List Int) : (srt l).length = l.length := (List.mergeSort_perm l _).length_eq

theorem srt_eq {l m : List Int} (h : l.Perm m) (hm : m.Pairwise (· < ·)) : srt l = m :=
  List.Perm.eq_of_pairwise (le := fun a b => decide (a ≤ b) = true) (fun a b _ _ h1 h2 => by simp at h1 h2; omega)
    (List.pairwise_mergeSort (fun a b c h1 h2 => by simp at h1 h2 ⊢; omega) (fun a b => by simp; omega) l)
    (hm.imp fun h => by simp; omega) ((List.mergeSort_perm l _).trans h)

/-- slices.Sort of a slice that the call has built. -/
theorem sort_own (base : Nat) (e : TypeId) (v : Value) (ss : List Int) (w : World) (hown : w.ownsRow base e 1 v ss.length (ss.map (Value.int .i64))) (hsz : ss.length < 4611686018427387904) :
    Calls Try.prog 23 #[v] w fun x w' => x = .returned (.tuple #[]) ∧ w'.ownsRow base e 1 v ss.length ((srt ss).map (Value.int .i64)) ∧ w.grownBy w' v.ownBlock := by
  rcases hown.2 with ⟨rfl, h0⟩ | ⟨g, cap, cur, rfl, hg, hh, h1, h2, h3, h4⟩
  · have e0 : ss = [] := List.eq_nil_of_length_eq_zero h0
    subst e0
    refine (sort_none none 0 w).mono ?_
    rintro x w' ⟨rfl, rfl⟩
    exact ⟨rfl, by rw [show srt [] = [] from by simp [srt]]; exact hown, rfl, rfl, rfl, Nat.le_refl _, fun _ _ _ => rfl⟩
  · rw [Nat.mul_one] at h4
    refine (sort_some g 0 cap ss w (holds_of_blockI hh h4) (Array.getElem?_eq_some_iff.1 hh).1 hsz).mono ?_
    rintro x w' ⟨rfl, n, os, rfl⟩
    exact ⟨rfl, ownsRow_sortedI (srt_len ss) hg hh h1 h2 h3, grownBy_sortedI _⟩
end Go.Proofs
