/- The library's sort of ints, off the kit's shelf. -/
import Derived.Test.YtdnfjpelhiniaaaRows
import Derived.Test.YtdnfjpelhiniaaaMem
import Derived.Ground.Names2Prog
import Derived.Shelf.Lay
import Derived.Shelf.Sort.Plain
import Derived.Shelf.Slices.In.SortNone
import Derived.Sort.OwnSortedInts
namespace Go.Proofs
open Go.Shelf
def Try.lays189_ren : Go.Shelf.Ren := ⟨fun | 189 => 23 | 125 => 25 | 257 => 26 | 128 => 35 | 129 => 36 | 294 => 37 | 295 => 38 | 296 => 39 | 297 => 40 | 298 => 41 | 299 => 42 | 216 => 43 | 300 => 44 | 301 => 45 | 328 => 51 | 329 => 47 | 330 => 48 | 331 => 52 | 332 => 53 | 215 => 54 | 343 => 56 | n => n, fun | 28 => 39 | 3 => 3 | 46 => 60 | 0 => 0 | 51 => 70 | 53 => 29 | 4 => 4 | 183 => 64 | 182 => 63 | 131 => 48 | 5 => 5 | 9 => 9 | 218 => 78 | 222 => 82 | 228 => 87 | 229 => 88 | n => n, fun | n => n⟩
theorem Try.lays189 : Go.Proofs.Lays.n189 Try.prog Try.lays189_ren where
  mixed := by kernel_rfl
  f125 := Try.func25.trans (congrArg some (by kernel_rfl))
  f128 := Try.func35.trans (congrArg some (by kernel_rfl))
  f129 := Try.func36.trans (congrArg some (by kernel_rfl))
  f189 := Try.func23.trans (congrArg some (by kernel_rfl))
  f215 := Try.func54.trans (congrArg some (by kernel_rfl))
  f216 := Try.func43.trans (congrArg some (by kernel_rfl))
  f257 := Try.func26.trans (congrArg some (by kernel_rfl))
  f294 := Try.func37.trans (congrArg some (by kernel_rfl))
  f295 := Try.func38.trans (congrArg some (by kernel_rfl))
  f296 := Try.func39.trans (congrArg some (by kernel_rfl))
  f297 := Try.func40.trans (congrArg some (by kernel_rfl))
  f298 := Try.func41.trans (congrArg some (by kernel_rfl))
  f299 := Try.func42.trans (congrArg some (by kernel_rfl))
  f300 := Try.func44.trans (congrArg some (by kernel_rfl))
  f301 := Try.func45.trans (congrArg some (by kernel_rfl))
  f328 := Try.func51.trans (congrArg some (by kernel_rfl))
  f329 := Try.func47.trans (congrArg some (by kernel_rfl))
  f330 := Try.func48.trans (congrArg some (by kernel_rfl))
  f331 := Try.func52.trans (congrArg some (by kernel_rfl))
  f332 := Try.func53.trans (congrArg some (by kernel_rfl))
  f343 := Try.func56.trans (congrArg some (by kernel_rfl))
  t0 := Try.underlying0
  a0 := Try.isAgg0
  z0 := Try.sizeOf0
  v0 := Try.zeroValue0
  t3 := Try.underlying3
  a3 := Try.isAgg3
  z3 := Try.sizeOf3
  v3 := Try.zeroValue3
  t4 := Try.underlying4
  a4 := Try.isAgg4
  z4 := Try.sizeOf4
  v4 := Try.zeroValue4
  t5 := Try.underlying5
  a5 := Try.isAgg5
  z5 := Try.sizeOf5
  v5 := Try.zeroValue5
  t9 := Try.underlying9
  a9 := Try.isAgg9
  z9 := Try.sizeOf9
  v9 := Try.zeroValue9
  t28 := Try.underlying39
  a28 := Try.isAgg39
  z28 := Try.sizeOf39
  v28 := Try.zeroValue39
  t46 := Try.underlying60
  a46 := Try.isAgg60
  z46 := Try.sizeOf60
  v46 := Try.zeroValue60
  t51 := Try.underlying70
  a51 := Try.isAgg70
  z51 := Try.sizeOf70
  v51 := Try.zeroValue70
  t53 := Try.underlying29
  a53 := Try.isAgg29
  z53 := Try.sizeOf29
  v53 := Try.zeroValue29
  t131 := Try.underlying48
  a131 := Try.isAgg48
  z131 := Try.sizeOf48
  v131 := Try.zeroValue48
  t182 := Try.underlying63
  a182 := Try.isAgg63
  z182 := Try.sizeOf63
  v182 := Try.zeroValue63
  t183 := Try.underlying64
  a183 := Try.isAgg64
  z183 := Try.sizeOf64
  v183 := Try.zeroValue64
  t218 := Try.underlying78
  a218 := Try.isAgg78
  z218 := Try.sizeOf78
  v218 := Try.zeroValue78
  t222 := Try.underlying82
  a222 := Try.isAgg82
  z222 := Try.sizeOf82
  v222 := Try.zeroValue82
  t228 := Try.underlying87
  a228 := Try.isAgg87
  z228 := Try.sizeOf87
  v228 := Try.zeroValue87
  t229 := Try.underlying88
  a229 := Try.isAgg88
  z229 := Try.sizeOf88
  v229 := Try.zeroValue88

open Go.Sort Go.RowKit in
theorem sort_some (blk off cap : Nat) (zs : List Int) (w : World) (hH : Holds (Value.int .i64) w blk off zs.toArray) (hblk : blk < w.heap.size) (hsz : zs.length < 4611686018427387904) :
    Calls Try.prog 23 #[.slice (some ⟨blk, off, none⟩) zs.length cap] w fun e w' =>
      e = .returned (.tuple #[]) ∧ ∃ n os, w' = grow (putRow (Value.int .i64) (Sort.ahead w n) blk off (zs.mergeSort fun x y => decide (x ≤ y)).toArray) os := Any.slices_Sort_int Try.lays189 blk off cap zs w hH hblk hsz

open Go.Sort Go.RowKit in
theorem sort_none (p : Option Addr) (cap : Nat) (w : World) :
    Calls Try.prog 23 #[.slice p 0 cap] w fun e w' => e = .returned (.tuple #[]) ∧ w' = w := Any.slices_Sort_int_none Try.lays189 p cap w

/-- The list in order. -/
def srt (l : List Int) : List Int := l.mergeSort fun x y => decide (x ≤ y)

theorem srt_len (l : List Int) : (srt l).length = l.length := (List.mergeSort_perm l _).length_eq

theorem srt_eq {l m : List Int} (h : l.Perm m) (hm : m.Pairwise (· < ·)) : srt l = m :=
  List.Perm.eq_of_pairwise (le := fun a b => decide (a ≤ b) = true) (fun a b _ _ h1 h2 => by simp at h1 h2; omega)
    (List.pairwise_mergeSort (fun a b c h1 h2 => by simp at h1 h2 ⊢; omega) (fun a b => by simp; omega) l)
    (hm.imp fun h => by simp; omega) ((List.mergeSort_perm l _).trans h)

/-- slices.Sort of a slice that the call has built. -/
theorem sort_own (base : Nat) (e : TypeId) (v : Value) (ss : List Int) (w : World) (hown : w.ownsRow base e 1 v ss.length (ss.map (Value.int .i64))) (hsz : ss.length < 4611686018427387904) :
    Calls Try.prog 23 #[v] w fun x w' => x = .returned (.tuple #[]) ∧ w'.ownsRow base e 1 v ss.length ((srt ss).map (Value.int .i64)) ∧ w.grownBy w' v.ownBlock := by
  rcases hown.2 with ⟨rfl, h0⟩ | ⟨g, cap, cur, rfl, hg, hh, h1, h2, h3, h4⟩
  · have e0 : ss = [] := List.eq_nil_of_length_eq_zero h0
    subst e0
    refine (sort_none none 0 w).mono ?_
    rintro x w' ⟨rfl, rfl⟩
    exact ⟨rfl, by rw [show srt [] = [] from by simp [srt]]; exact hown, rfl, rfl, rfl, Nat.le_refl _, fun _ _ _ => rfl⟩
  · rw [Nat.mul_one] at h4
    refine (sort_some g 0 cap ss w (holds_of_blockI hh h4) (Array.getElem?_eq_some_iff.1 hh).1 hsz).mono ?_
    rintro x w' ⟨rfl, n, os, rfl⟩
    exact ⟨rfl, ownsRow_sortedI (srt_len ss) hg hh h1 h2 h3, grownBy_sortedI _⟩
end Go.Proofs
