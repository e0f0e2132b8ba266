/- Package buddy: Runs. -/
import Derived.Test.YtmmjkebhcihjlaaBuv
import Derived.Test.YtmmjkebhcihjlaaSrk
import Derived.Test.YtmmjkebhcihjlaaBuilt
namespace Go.Proofs.Ytmmjkebhcihjlaa
open Go Go.Sort Go.Proofs Go.RowKit Go.Shelf

def Try.sortRuns_ren : Go.Shelf.Ren := ⟨fun | 6 => 25 | 15 => 33 | 14 => 32 | 28 => 45 | 29 => 46 | 20 => 37 | 21 => 38 | 22 => 39 | 23 => 40 | 24 => 41 | 25 => 42 | 26 => 43 | 27 => 44 | 46 => 48 | 47 => 49 | 48 => 50 | 49 => 51 | 50 => 52 | 57 => 54 | n => n, fun | 22 => 31 | 24 => 34 | 25 => 62 | 3 => 3 | 39 => 35 | 0 => 0 | 53 => 77 | 55 => 79 | 4 => 4 | 46 => 71 | 45 => 70 | 50 => 59 | 5 => 5 | 9 => 9 | 66 => 80 | 70 => 84 | 76 => 87 | 77 => 38 | n => n, fun | n => n⟩
theorem Try.sortRuns : Go.Proofs.SlLaysF0.n6 Try.prog Try.sortRuns_ren where
  mixed := by kernel_rfl
  f6 := ⟨Try.f25.name, by decide, Try.func25.trans (congrArg some (by kernel_rfl))⟩
  f14 := ⟨Try.f32.name, by decide, Try.func32.trans (congrArg some (by kernel_rfl))⟩
  f15 := Try.func33.trans (congrArg some (by kernel_rfl))
  f20 := ⟨Try.f37.name, by decide, Try.func37.trans (congrArg some (by kernel_rfl))⟩
  f21 := ⟨Try.f38.name, by decide, Try.func38.trans (congrArg some (by kernel_rfl))⟩
  f22 := ⟨Try.f39.name, by decide, Try.func39.trans (congrArg some (by kernel_rfl))⟩
  f23 := ⟨Try.f40.name, by decide, Try.func40.trans (congrArg some (by kernel_rfl))⟩
  f24 := ⟨Try.f41.name, by decide, Try.func41.trans (congrArg some (by kernel_rfl))⟩
  f25 := ⟨Try.f42.name, by decide, Try.func42.trans (congrArg some (by kernel_rfl))⟩
  f26 := ⟨Try.f43.name, by decide, Try.func43.trans (congrArg some (by kernel_rfl))⟩
  f27 := ⟨Try.f44.name, by decide, Try.func44.trans (congrArg some (by kernel_rfl))⟩
  f28 := Try.func45.trans (congrArg some (by kernel_rfl))
  f29 := Try.func46.trans (congrArg some (by kernel_rfl))
  f46 := ⟨Try.f48.name, by decide, Try.func48.trans (congrArg some (by kernel_rfl))⟩
  f47 := Try.func49.trans (congrArg some (by kernel_rfl))
  f48 := Try.func50.trans (congrArg some (by kernel_rfl))
  f49 := ⟨Try.f51.name, by decide, Try.func51.trans (congrArg some (by kernel_rfl))⟩
  f50 := ⟨Try.f52.name, by decide, Try.func52.trans (congrArg some (by kernel_rfl))⟩
  f57 := ⟨Try.f54.name, by decide, Try.func54.trans (congrArg some (by kernel_rfl))⟩
  t0 := Try.underlying0
  a0 := Try.isAgg0
  z0 := Try.sizeOf0
  v0 := Try.zeroValue0
  t3 := Try.underlying3
  a3 := Try.isAgg3
  z3 := Try.sizeOf3
  v3 := Try.zeroValue3
  t4 := Try.underlying4
  a4 := Try.isAgg4
  z4 := Try.sizeOf4
  v4 := Try.zeroValue4
  t5 := Try.underlying5
  a5 := Try.isAgg5
  z5 := Try.sizeOf5
  v5 := Try.zeroValue5
  t9 := Try.underlying9
  a9 := Try.isAgg9
  z9 := Try.sizeOf9
  v9 := Try.zeroValue9
  t22 := Try.underlying31
  a22 := Try.isAgg31
  z22 := Try.sizeOf31
  v22 := Try.zeroValue31
  t25 := Try.underlying62
  a25 := Try.isAgg62
  z25 := Try.sizeOf62
  v25 := Try.zeroValue62
  t39 := Try.underlying35
  a39 := Try.isAgg35
  z39 := Try.sizeOf35
  v39 := Try.zeroValue35
  t45 := Try.underlying70
  a45 := Try.isAgg70
  z45 := Try.sizeOf70
  v45 := Try.zeroValue70
  t46 := Try.underlying71
  a46 := Try.isAgg71
  z46 := Try.sizeOf71
  v46 := Try.zeroValue71
  t50 := Try.underlying59
  a50 := Try.isAgg59
  z50 := Try.sizeOf59
  v50 := Try.zeroValue59
  t53 := Try.underlying77
  a53 := Try.isAgg77
  z53 := Try.sizeOf77
  v53 := Try.zeroValue77
  t55 := Try.underlying79
  a55 := Try.isAgg79
  z55 := Try.sizeOf79
  v55 := Try.zeroValue79
  t66 := Try.underlying80
  a66 := Try.isAgg80
  z66 := Try.sizeOf80
  v66 := Try.zeroValue80
  t70 := Try.underlying84
  a70 := Try.isAgg84
  z70 := Try.sizeOf84
  v70 := Try.zeroValue84
  t76 := Try.underlying87
  a76 := Try.isAgg87
  z76 := Try.sizeOf87
  v76 := Try.zeroValue87
  t77 := Try.underlying38
  a77 := Try.isAgg38
  z77 := Try.sizeOf38
  v77 := Try.zeroValue38

/-- A run as it is sorted: its frame below 2^21. -/
abbrev Run := Fin 2097152 × Nat
def rv (x : Run) : List Value := [.int .i64 (x.1.val : Int), .int .i64 (x.2 : Int)]
theorem rv_len (x : Run) : (rv x).length = 2 := rfl
def rcf (x y : Run) : Int := (x.1.val : Int) - (y.1.val : Int)
theorem rlt (x y : Run) : ltOf rcf x y = decide (x.1.val < y.1.val) := by
  unfold ltOf rcf
  by_cases h : x.1.val < y.1.val
  · simp [h]; omega
  · simp [h]; omega
theorem rswo : SWO (ltOf rcf) where
  irrefl x := by rw [rlt]; simp
  trans x y z h1 h2 := by rw [rlt] at *; simp at *; omega
  ntrans x y z h1 h2 := by rw [rlt] at *; simp at *; omega

theorem runs_cmp (x y : Run) (W : World) : Calls Try.prog 26 #[.agg #[.int .i64 (x.1.val : Int), .int .i64 (x.2 : Int)], .agg #[.int .i64 (y.1.val : Int), .int .i64 (y.2 : Int)]] W fun e w' => e = .returned (.int .i64 (rcf x y)) ∧ ∃ q os', w' = grow (W.drewN q) os' := by
  obtain ⟨⟨a, ha⟩, o⟩ := x
  obtain ⟨⟨b, hb⟩, p⟩ := y
  unfold rcf
  go_enter Try.func26, Try.ntmps26
  go_wp2
  go_ret
  exact ⟨rfl, 0, _, by rw [alloc_eq_grow, alloc_eq_grow, grow_grow]; rfl⟩

/-- The library's sort of runs that the call has built. -/
theorem sortRuns_own (base : Nat) (v : Value) (ss : List Run) (w : World) (hown : w.ownsRow base 34 2 v ss.length (ss.flatMap rv)) (hsz : ss.length < 4611686018427387904) :
    Calls Try.prog 25 #[v, .func (.func 26) #[] #[]] w fun x w' => x = .returned (.tuple #[]) ∧ ∃ ts : List Run, ts.Perm ss ∧ ts.Pairwise (fun a b => a.1.val ≤ b.1.val) ∧ w'.ownsRow base 34 2 v ss.length (ts.flatMap rv) ∧ w.grownBy w' v.ownBlock := by
  rcases hown.2 with ⟨rfl, h0⟩ | ⟨g, cap, cur, rfl, hg, hh, h1, h2, h3, h4⟩
  · have e0 : ss = [] := List.eq_nil_of_length_eq_zero h0
    subst e0
    refine (AnyF.slices_SortFunc_none { Try.sortRuns with } none 0 _ w).mono ?_
    rintro x w' ⟨rfl, rfl⟩
    exact ⟨rfl, [], List.Perm.refl _, List.Pairwise.nil, hown, rfl, rfl, rfl, Nat.le_refl _, fun _ _ _ => rfl⟩
  · have eg : ∀ args w, (callFunc 26 args).run Try.prog w = .ok (.enter 26 args) w := enters_of Try.func26 (by kernel_rfl) rfl
    have hb := (Array.getElem?_eq_some_iff.1 hh).1
    have hcon := AnyQ.slices_SortFunc Try.sortRuns 2 Try.isAgg34 Try.sizeOf34 rv rv_len (fun x v hv => by simp [rv] at hv; rcases hv with rfl | rfl <;> rfl) rcf rswo 26 #[] g 0 cap ss.toArray w eg (fun _ _ _ _ x y => runs_cmp x y _) (holdsK_of_block (by omega) rv_len hh h4) hb (by simpa using hsz)
    refine hcon.mono ?_
    rintro x w' ⟨rfl, d', n, os, hp, hs, rfl⟩
    obtain ⟨hp1, _, hp3⟩ := hp
    have hd : d'.toList.length = ss.length := by rw [Array.length_toList, hp1]; simp
    have hpm : d'.toList.Perm ss := by
      have := hp3
      simp at this
      rw [List.take_of_length_le (by omega)] at this
      exact this
    have ed : d'.toList.toArray = d' := Array.toArray_toList
    refine ⟨rfl, d'.toList, hpm, ?_, ?_, ?_⟩
    · rw [List.pairwise_iff_getElem]
      intro i j hi hj hij
      have h9 := hs i j (Nat.zero_le _) hij (by simp; omega)
      rw [rlt, getElem!_pos d' j (by simpa using hj), getElem!_pos d' i (by simpa using hi)] at h9
      simp at h9 ⊢
      exact h9
    · have := ownsRow_sortedK (enc := rv) (by omega) rv_len (ts := d'.toList) (ss := ss) (n := n) (os := os) hd hg hh h1 h2 h3
      rw [ed] at this
      exact this
    · exact grownBy_sortedK _
end Go.Proofs.Ytmmjkebhcihjlaa
