/- The library's sort of ints, off the kit's shelf. -/
import Derived.Test.YtephgikeofkblaaRows
import Derived.Test.YtephgikeofkblaaMem
import Derived.Ground.Names2Prog
import Derived.Shelf.Lay
import Derived.Shelf.Sort.Plain
import Derived.Shelf.Slices.In.SortNone
import Derived.Sort.OwnSortedInts
namespace Go.Proofs
open Go.Shelf
def Try.lays189_ren : Go.Shelf.Ren := ⟨fun | 189 => 24 | 125 => 26 | 257 => 25 | 128 => 36 | 129 => 37 | 294 => 27 | 295 => 28 | 296 => 29 | 297 => 30 | 298 => 31 | 299 => 32 | 216 => 33 | 300 => 34 | 301 => 35 | 328 => 38 | 329 => 39 | 330 => 40 | 331 => 41 | 332 => 42 | 215 => 43 | 343 => 44 | n => n, fun | 28 => 45 | 3 => 3 | 46 => 65 | 0 => 0 | 51 => 76 | 53 => 29 | 4 => 4 | 183 => 68 | 182 => 67 | 131 => 73 | 5 => 5 | 9 => 9 | 218 => 78 | 222 => 82 | 228 => 84 | 229 => 37 | n => n, fun | n => n⟩
theorem Try.lays189 : Go.Proofs.Lays.n189 Try.prog Try.lays189_ren where
  mixed := by kernel_rfl
  f125 := Try.func26.trans (congrArg some (by kernel_rfl))
  f128 := Try.func36.trans (congrArg some (by kernel_rfl))
  f129 := Try.func37.trans (congrArg some (by kernel_rfl))
  f189 := Try.func24.trans (congrArg some (by kernel_rfl))
  f215 := Try.func43.trans (congrArg some (by kernel_rfl))
  f216 := Try.func33.trans (congrArg some (by kernel_rfl))
  f257 := Try.func25.trans (congrArg some (by kernel_rfl))
  f294 := Try.func27.trans (congrArg some (by kernel_rfl))
  f295 := Try.func28.trans (congrArg some (by kernel_rfl))
  f296 := Try.func29.trans (congrArg some (by kernel_rfl))
  f297 := Try.func30.trans (congrArg some (by kernel_rfl))
  f298 := Try.func31.trans (congrArg some (by kernel_rfl))
  f299 := Try.func32.trans (congrArg some (by kernel_rfl))
  f300 := Try.func34.trans (congrArg some (by kernel_rfl))
  f301 := Try.func35.trans (congrArg some (by kernel_rfl))
  f328 := Try.func38.trans (congrArg some (by kernel_rfl))
  f329 := Try.func39.trans (congrArg some (by kernel_rfl))
  f330 := Try.func40.trans (congrArg some (by kernel_rfl))
  f331 := Try.func41.trans (congrArg some (by kernel_rfl))
  f332 := Try.func42.trans (congrArg some (by kernel_rfl))
  f343 := Try.func44.trans (congrArg some (by kernel_rfl))
  t0 := Try.underlying0
  a0 := Try.isAgg0
  z0 := Try.sizeOf0
  v0 := Try.zeroValue0
  t3 := Try.underlying3
  a3 := Try.isAgg3
  z3 := Try.sizeOf3
  v3 := Try.zeroValue3
  t4 := Try.underlying4
  a4 := Try.isAgg4
  z4 := Try.sizeOf4
  v4 := Try.zeroValue4
  t5 := Try.underlying5
  a5 := Try.isAgg5
  z5 := Try.sizeOf5
  v5 := Try.zeroValue5
  t9 := Try.underlying9
  a9 := Try.isAgg9
  z9 := Try.sizeOf9
  v9 := Try.zeroValue9
  t28 := Try.underlying45
  a28 := Try.isAgg45
  z28 := Try.sizeOf45
  v28 := Try.zeroValue45
  t46 := Try.underlying65
  a46 := Try.isAgg65
  z46 := Try.sizeOf65
  v46 := Try.zeroValue65
  t51 := Try.underlying76
  a51 := Try.isAgg76
  z51 := Try.sizeOf76
  v51 := Try.zeroValue76
  t53 := Try.underlying29
  a53 := Try.isAgg29
  z53 := Try.sizeOf29
  v53 := Try.zeroValue29
  t131 := Try.underlying73
  a131 := Try.isAgg73
  z131 := Try.sizeOf73
  v131 := Try.zeroValue73
  t182 := Try.underlying67
  a182 := Try.isAgg67
  z182 := Try.sizeOf67
  v182 := Try.zeroValue67
  t183 := Try.underlying68
  a183 := Try.isAgg68
  z183 := Try.sizeOf68
  v183 := Try.zeroValue68
  t218 := Try.underlying78
  a218 := Try.isAgg78
  z218 := Try.sizeOf78
  v218 := Try.zeroValue78
  t222 := Try.underlying82
  a222 := Try.isAgg82
  z222 := Try.sizeOf82
  v222 := Try.zeroValue82
  t228 := Try.underlying84
  a228 := Try.isAgg84
  z228 := Try.sizeOf84
  v228 := Try.zeroValue84
  t229 := Try.underlying37
  a229 := Try.isAgg37
  z229 := Try.sizeOf37
  v229 := Try.zeroValue37

open Go.Sort Go.RowKit in
theorem sort_some (blk off cap : Nat) (zs : List Int) (w : World) (hH : Holds (Value.int .i64) w blk off zs.toArray) (hblk : blk < w.heap.size) (hsz : zs.length < 4611686018427387904) :
    Calls Try.prog 24 #[.slice (some ⟨blk, off, none⟩) zs.length cap] w fun e w' =>
      e = .returned (.tuple #[]) ∧ ∃ n os, w' = grow (putRow (Value.int .i64) (Sort.ahead w n) blk off (zs.mergeSort fun x y => decide (x ≤ y)).toArray) os := Any.slices_Sort_int Try.lays189 blk off cap zs w hH hblk hsz

open Go.Sort Go.RowKit in
theorem sort_none (p : Option Addr) (cap : Nat) (w : World) :
    Calls Try.prog 24 #[.slice p 0 cap] w fun e w' => e = .returned (.tuple #[]) ∧ w' = w := Any.slices_Sort_int_none Try.lays189 p cap w

/-- The list in order. -/
def srt (l : List Int) : List Int := l.mergeSort fun x y => decide (x ≤ y)

theorem srt_len (l : List Int) : (srt l).length = l.length := (List.mergeSort_perm l _).length_eq

theorem srt_eq {l m : List Int} (h : l.Perm m) (hm : m.Pairwise (· < ·)) : srt l = m :=
  List.Perm.eq_of_pairwise (le := fun a b => decide (a ≤ b) = true) (fun a b _ _ h1 h2 => by simp at h1 h2; omega)
    (List.pairwise_mergeSort (fun a b c h1 h2 => by simp at h1 h2 ⊢; omega) (fun a b => by simp; omega) l)
    (hm.imp fun h => by simp; omega) ((List.mergeSort_perm l _).trans h)

/-- slices.Sort of a slice that the call has built. -/
theorem sort_own (base : Nat) (e : TypeId) (v : Value) (ss : List Int) (w : World) (hown : w.ownsRow base e 1 v ss.length (ss.map (Value.int .i64))) (hsz : ss.length < 4611686018427387904) :
    Calls Try.prog 24 #[v] w fun x w' => x = .returned (.tuple #[]) ∧ w'.ownsRow base e 1 v ss.length ((srt ss).map (Value.int .i64)) ∧ w.grownBy w' v.ownBlock := by
  rcases hown.2 with ⟨rfl, h0⟩ | ⟨g, cap, cur, rfl, hg, hh, h1, h2, h3, h4⟩
  · have e0 : ss = [] := List.eq_nil_of_length_eq_zero h0
    subst e0
    refine (sort_none none 0 w).mono ?_
    rintro x w' ⟨rfl, rfl⟩
    exact ⟨rfl, by rw [show srt [] = [] from by simp [srt]]; exact hown, rfl, rfl, rfl, Nat.le_refl _, fun _ _ _ => rfl⟩
  · rw [Nat.mul_one] at h4
    refine (sort_some g 0 cap ss w (holds_of_blockI hh h4) (Array.getElem?_eq_some_iff.1 hh).1 hsz).mono ?_
    rintro x w' ⟨rfl, n, os, rfl⟩
    exact ⟨rfl, ownsRow_sortedI (srt_len ss) hg hh h1 h2 h3, grownBy_sortedI _⟩
end Go.Proofs
