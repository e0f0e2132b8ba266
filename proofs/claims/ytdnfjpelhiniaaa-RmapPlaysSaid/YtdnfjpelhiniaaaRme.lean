/- Package rmap: the order of List; the library's sort of places. -/
import Derived.Test.YtdnfjpelhiniaaaRmd
import Derived.Test.YtdnfjpelhiniaaaPlace
import Derived.Test.YtdnfjpelhiniaaaSrk
namespace Go.Proofs.Ytdnfjpelhiniaaa
open Go Go.Sort Go.Proofs Go.RowKit Go.Shelf

def Try.sortPlaces_ren : Go.Shelf.Ren := ⟨fun | 6 => 21 | 15 => 25 | 14 => 24 | 28 => 35 | 29 => 36 | 20 => 27 | 21 => 28 | 22 => 29 | 23 => 30 | 24 => 31 | 25 => 32 | 26 => 33 | 27 => 34 | 46 => 46 | 47 => 47 | 48 => 48 | 49 => 49 | 50 => 50 | 57 => 55 | n => n, fun | 22 => 37 | 24 => 31 | 25 => 56 | 3 => 3 | 39 => 60 | 0 => 0 | 53 => 70 | 55 => 29 | 4 => 4 | 46 => 64 | 45 => 63 | 50 => 48 | 5 => 5 | 9 => 9 | 66 => 78 | 70 => 82 | 76 => 87 | 77 => 88 | n => n, fun | n => n⟩
theorem Try.sortPlaces : Go.Proofs.SlLaysF0.n6 Try.prog Try.sortPlaces_ren where
  mixed := by kernel_rfl
  f6 := ⟨Try.f21.name, by decide, Try.func21.trans (congrArg some (by kernel_rfl))⟩
  f14 := ⟨Try.f24.name, by decide, Try.func24.trans (congrArg some (by kernel_rfl))⟩
  f15 := Try.func25.trans (congrArg some (by kernel_rfl))
  f20 := ⟨Try.f27.name, by decide, Try.func27.trans (congrArg some (by kernel_rfl))⟩
  f21 := ⟨Try.f28.name, by decide, Try.func28.trans (congrArg some (by kernel_rfl))⟩
  f22 := ⟨Try.f29.name, by decide, Try.func29.trans (congrArg some (by kernel_rfl))⟩
  f23 := ⟨Try.f30.name, by decide, Try.func30.trans (congrArg some (by kernel_rfl))⟩
  f24 := ⟨Try.f31.name, by decide, Try.func31.trans (congrArg some (by kernel_rfl))⟩
  f25 := ⟨Try.f32.name, by decide, Try.func32.trans (congrArg some (by kernel_rfl))⟩
  f26 := ⟨Try.f33.name, by decide, Try.func33.trans (congrArg some (by kernel_rfl))⟩
  f27 := ⟨Try.f34.name, by decide, Try.func34.trans (congrArg some (by kernel_rfl))⟩
  f28 := Try.func35.trans (congrArg some (by kernel_rfl))
  f29 := Try.func36.trans (congrArg some (by kernel_rfl))
  f46 := ⟨Try.f46.name, by decide, Try.func46.trans (congrArg some (by kernel_rfl))⟩
  f47 := Try.func47.trans (congrArg some (by kernel_rfl))
  f48 := Try.func48.trans (congrArg some (by kernel_rfl))
  f49 := ⟨Try.f49.name, by decide, Try.func49.trans (congrArg some (by kernel_rfl))⟩
  f50 := ⟨Try.f50.name, by decide, Try.func50.trans (congrArg some (by kernel_rfl))⟩
  f57 := ⟨Try.f55.name, by decide, Try.func55.trans (congrArg some (by kernel_rfl))⟩
  t0 := Try.underlying0
  a0 := Try.isAgg0
  z0 := Try.sizeOf0
  v0 := Try.zeroValue0
  t3 := Try.underlying3
  a3 := Try.isAgg3
  z3 := Try.sizeOf3
  v3 := Try.zeroValue3
  t4 := Try.underlying4
  a4 := Try.isAgg4
  z4 := Try.sizeOf4
  v4 := Try.zeroValue4
  t5 := Try.underlying5
  a5 := Try.isAgg5
  z5 := Try.sizeOf5
  v5 := Try.zeroValue5
  t9 := Try.underlying9
  a9 := Try.isAgg9
  z9 := Try.sizeOf9
  v9 := Try.zeroValue9
  t22 := Try.underlying37
  a22 := Try.isAgg37
  z22 := Try.sizeOf37
  v22 := Try.zeroValue37
  t25 := Try.underlying56
  a25 := Try.isAgg56
  z25 := Try.sizeOf56
  v25 := Try.zeroValue56
  t39 := Try.underlying60
  a39 := Try.isAgg60
  z39 := Try.sizeOf60
  v39 := Try.zeroValue60
  t45 := Try.underlying63
  a45 := Try.isAgg63
  z45 := Try.sizeOf63
  v45 := Try.zeroValue63
  t46 := Try.underlying64
  a46 := Try.isAgg64
  z46 := Try.sizeOf64
  v46 := Try.zeroValue64
  t50 := Try.underlying48
  a50 := Try.isAgg48
  z50 := Try.sizeOf48
  v50 := Try.zeroValue48
  t53 := Try.underlying70
  a53 := Try.isAgg70
  z53 := Try.sizeOf70
  v53 := Try.zeroValue70
  t55 := Try.underlying29
  a55 := Try.isAgg29
  z55 := Try.sizeOf29
  v55 := Try.zeroValue29
  t66 := Try.underlying78
  a66 := Try.isAgg78
  z66 := Try.sizeOf78
  v66 := Try.zeroValue78
  t70 := Try.underlying82
  a70 := Try.isAgg82
  z70 := Try.sizeOf82
  v70 := Try.zeroValue82
  t76 := Try.underlying87
  a76 := Try.isAgg87
  z76 := Try.sizeOf87
  v76 := Try.zeroValue87
  t77 := Try.underlying88
  a77 := Try.isAgg88
  z77 := Try.sizeOf88
  v77 := Try.zeroValue88

instance : Inhabited Plc := ⟨⟨(0, 0), by decide, by decide⟩⟩
def pc (x : Plc) : List Value := [.int .i64 x.1.1, .int .u64 x.1.2]
theorem pc_len (x : Plc) : (pc x).length = 2 := rfl
def plt (x y : Plc) : Bool := decide (x.1.1 < y.1.1) || (decide (x.1.1 = y.1.1) && decide (x.1.2 < y.1.2))
theorem plt_iff {x y : Plc} : plt x y = true ↔ x.1.1 < y.1.1 ∨ (x.1.1 = y.1.1 ∧ x.1.2 < y.1.2) := by
  unfold plt
  rw [Bool.or_eq_true, Bool.and_eq_true, decide_eq_true_eq, decide_eq_true_eq, decide_eq_true_eq]
def pcf (x y : Plc) : Int := if x = y then 0 else if plt x y then -1 else 1
theorem plt_lt (x y : Plc) : ltOf pcf x y = plt x y := by
  unfold ltOf pcf
  by_cases h : x = y
  · subst h
    rw [if_pos rfl]
    have : plt x x = false := by
      cases hp : plt x x
      · rfl
      · have := plt_iff.1 hp; omega
    rw [this]; rfl
  · rw [if_neg h]
    cases plt x y <;> rfl
theorem plc_ext {x y : Plc} (h1 : x.1.1 = y.1.1) (h2 : x.1.2 = y.1.2) : x = y := Subtype.ext (Prod.ext h1 h2)
theorem plt_false {x y : Plc} : plt x y = false ↔ ¬ (x.1.1 < y.1.1 ∨ (x.1.1 = y.1.1 ∧ x.1.2 < y.1.2)) := by
  rw [← plt_iff, Bool.not_eq_true]
theorem pswo : SWO (ltOf pcf) where
  irrefl x := by rw [plt_lt, plt_false]; omega
  trans x y z h1 h2 := by rw [plt_lt, plt_iff] at *; omega
  ntrans x y z h1 h2 := by rw [plt_lt, plt_false] at *; omega

set_option maxRecDepth 100000 in
theorem list_cmp (x y : Plc) (W : World) : Calls Try.prog 22 #[.agg #[.int .i64 x.1.1, .int .u64 x.1.2], .agg #[.int .i64 y.1.1, .int .u64 y.1.2]] W fun e w' => e = .returned (.int .i64 (pcf x y)) ∧ ∃ q os', w' = grow (W.drewN q) os' := by
  have heq := fun W => place_eql x.1.1 x.1.2 y.1.1 y.1.2 W
  unfold pcf
  by_cases h : x = y
  · rw [if_pos h]
    have hb : (x.1.1 == y.1.1 && x.1.2 == y.1.2) = true := by rw [h]; simp
    rw [hb] at heq
    generalize x.1.1 = a at *
    generalize x.1.2 = b at *
    generalize y.1.1 = a' at *
    generalize y.1.2 = b' at *
    clear h hb
    go_enter Try.func22, Try.ntmps22
    go_wp2
    go_ret
    exact ⟨rfl, 0, _, by rw [alloc_eq_grow, alloc_eq_grow, grow_grow]; rfl⟩
  · rw [if_neg h]
    have hb : (x.1.1 == y.1.1 && x.1.2 == y.1.2) = false := by
      cases hc : (x.1.1 == y.1.1 && x.1.2 == y.1.2)
      · rfl
      · rw [Bool.and_eq_true, beq_iff_eq, beq_iff_eq] at hc
        exact absurd (plc_ext hc.1 hc.2) h
    rw [hb] at heq
    unfold plt
    generalize x.1.1 = a at *
    generalize x.1.2 = b at *
    generalize y.1.1 = a' at *
    generalize y.1.2 = b' at *
    clear h hb
    by_cases h1 : a < a'
    · have g1 : decide (a < a') = true := by simp; exact h1
      rw [g1]
      clear h1
      go_enter Try.func22, Try.ntmps22
      go_wp2
      go_ret
      exact ⟨rfl, 0, _, by rw [alloc_eq_grow, alloc_eq_grow, grow_grow]; rfl⟩
    · have g1 : decide (a < a') = false := by simp; omega
      rw [g1]
      by_cases h2 : a = a'
      · have g2 : (a == a') = true := by simp; exact h2
        have g2' : decide (a = a') = true := by simp; exact h2
        rw [g2']
        clear h1 h2 g2'
        by_cases h3 : b < b'
        · have g3 : decide (b < b') = true := by simp; exact h3
          rw [g3]
          clear h3
          go_enter Try.func22, Try.ntmps22
          go_wp2
          go_ret
          exact ⟨rfl, 0, _, by rw [alloc_eq_grow, alloc_eq_grow, grow_grow]; rfl⟩
        · have g3 : decide (b < b') = false := by simp; omega
          rw [g3]
          clear h3
          go_enter Try.func22, Try.ntmps22
          go_wp2
          go_ret
          exact ⟨rfl, 0, _, by rw [alloc_eq_grow, alloc_eq_grow, grow_grow]; rfl⟩
      · have g2 : (a == a') = false := by simp; exact h2
        have g2' : decide (a = a') = false := by simp; exact h2
        rw [g2']
        clear h1 h2 g2'
        go_enter Try.func22, Try.ntmps22
        go_wp2
        go_ret
        exact ⟨rfl, 0, _, by rw [alloc_eq_grow, alloc_eq_grow, grow_grow]; rfl⟩

/-- The library's sort of places that the call has built. -/
theorem sortPlaces_own (base : Nat) (v : Value) (ss : List Plc) (w : World) (hown : w.ownsRow base 31 2 v ss.length (ss.flatMap pc)) (hsz : ss.length < 4611686018427387904) :
    Calls Try.prog 21 #[v, .func (.func 22) #[] #[]] w fun x w' => x = .returned (.tuple #[]) ∧ ∃ ts : List Plc, ts.Perm ss ∧ ts.Pairwise (fun a b => plt b a = false) ∧ w'.ownsRow base 31 2 v ss.length (ts.flatMap pc) ∧ w.grownBy w' v.ownBlock := by
  rcases hown.2 with ⟨rfl, h0⟩ | ⟨g, cap, cur, rfl, hg, hh, h1, h2, h3, h4⟩
  · have e0 : ss = [] := List.eq_nil_of_length_eq_zero h0
    subst e0
    refine (AnyF.slices_SortFunc_none { Try.sortPlaces with } none 0 _ w).mono ?_
    rintro x w' ⟨rfl, rfl⟩
    exact ⟨rfl, [], List.Perm.refl _, List.Pairwise.nil, hown, rfl, rfl, rfl, Nat.le_refl _, fun _ _ _ => rfl⟩
  · have eg : ∀ args w, (callFunc 22 args).run Try.prog w = .ok (.enter 22 args) w := enters_of Try.func22 (by kernel_rfl) rfl
    have hb := (Array.getElem?_eq_some_iff.1 hh).1
    have hcon := AnyQ.slices_SortFunc Try.sortPlaces 2 Try.isAgg31 Try.sizeOf31 pc pc_len (fun x v hv => by simp [pc] at hv; rcases hv with rfl | rfl <;> rfl) pcf pswo 22 #[] g 0 cap ss.toArray w eg (fun _ _ _ _ x y => list_cmp x y _) (holdsK_of_block (by omega) pc_len hh h4) hb (by simpa using hsz)
    refine hcon.mono ?_
    rintro x w' ⟨rfl, d', n, os, hp, hs, rfl⟩
    obtain ⟨hp1, _, hp3⟩ := hp
    have hd : d'.toList.length = ss.length := by rw [Array.length_toList, hp1]; simp
    have hpm : d'.toList.Perm ss := by
      have := hp3
      simp at this
      rw [List.take_of_length_le (by omega)] at this
      exact this
    have ed : d'.toList.toArray = d' := Array.toArray_toList
    refine ⟨rfl, d'.toList, hpm, ?_, ?_, ?_⟩
    · rw [List.pairwise_iff_getElem]
      intro i j hi hj hij
      have h9 := hs i j (Nat.zero_le _) hij (by simp; omega)
      rw [plt_lt, getElem!_pos d' j (by simpa using hj), getElem!_pos d' i (by simpa using hi)] at h9
      simpa using h9
    · have := ownsRow_sortedK (enc := pc) (by omega) pc_len (ts := d'.toList) (ss := ss) (n := n) (os := os) hd hg hh h1 h2 h3
      rw [ed] at this
      exact this
    · exact grownBy_sortedK _
end Go.Proofs.Ytdnfjpelhiniaaa
