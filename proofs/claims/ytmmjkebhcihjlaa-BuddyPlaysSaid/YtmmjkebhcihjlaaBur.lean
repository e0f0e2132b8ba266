/- Package buddy: Runs. -/
import Derived.Test.YtmmjkebhcihjlaaBuv
import Derived.Test.YtmmjkebhcihjlaaSrk
import Derived.Test.YtmmjkebhcihjlaaBuilt
namespace Go.Proofs.Ytmmjkebhcihjlaa
open Go Go.Sort Go.Proofs Go.RowKit Go.Shelf

shelf_lay_g SlLaysF0.n6 Slsf 6 at Try 25 as Try.sortRuns

/-- A run as it is sorted: its frame below 2^21. -/
abbrev Run := Fin 2097152 × Nat
def rv (x : Run) : List Value := [.int .i64 (x.1.val : Int), .int .i64 (x.2 : Int)]
theorem rv_len (x : Run) : (rv x).length = 2 := rfl
def rcf (x y : Run) : Int := (x.1.val : Int) - (y.1.val : Int)
theorem rlt (x y : Run) : ltOf rcf x y = decide (x.1.val < y.1.val) := by
  unfold ltOf rcf
  by_cases h : x.1.val < y.1.val
  · simp [h]; omega
  · simp [h]; omega
theorem rswo : SWO (ltOf rcf) where
  irrefl x := by rw [rlt]; simp
  trans x y z h1 h2 := by rw [rlt] at *; simp at *; omega
  ntrans x y z h1 h2 := by rw [rlt] at *; simp at *; omega

theorem runs_cmp (x y : Run) (W : World) : Calls Try.prog 26 #[.agg #[.int .i64 (x.1.val : Int), .int .i64 (x.2 : Int)], .agg #[.int .i64 (y.1.val : Int), .int .i64 (y.2 : Int)]] W fun e w' => e = .returned (.int .i64 (rcf x y)) ∧ ∃ q os', w' = grow (W.drewN q) os' := by
  obtain ⟨⟨a, ha⟩, o⟩ := x
  obtain ⟨⟨b, hb⟩, p⟩ := y
  unfold rcf
  go_enter Try.func26, Try.ntmps26
  go_wp2
  go_ret
  exact ⟨rfl, 0, _, by rw [alloc_eq_grow, alloc_eq_grow, grow_grow]; rfl⟩

/-- The library's sort of runs that the call has built. -/
theorem sortRuns_own (base : Nat) (v : Value) (ss : List Run) (w : World) (hown : w.ownsRow base 34 2 v ss.length (ss.flatMap rv)) (hsz : ss.length < 4611686018427387904) :
    Calls Try.prog 25 #[v, .func (.func 26) #[] #[]] w fun x w' => x = .returned (.tuple #[]) ∧ ∃ ts : List Run, ts.Perm ss ∧ ts.Pairwise (fun a b => a.1.val ≤ b.1.val) ∧ w'.ownsRow base 34 2 v ss.length (ts.flatMap rv) ∧ w.grownBy w' v.ownBlock := by
  rcases hown.2 with ⟨rfl, h0⟩ | ⟨g, cap, cur, rfl, hg, hh, h1, h2, h3, h4⟩
  · have e0 : ss = [] := List.eq_nil_of_length_eq_zero h0
    subst e0
    refine (AnyF.slices_SortFunc_none { Try.sortRuns with } none 0 _ w).mono ?_
    rintro x w' ⟨rfl, rfl⟩
    exact ⟨rfl, [], List.Perm.refl _, List.Pairwise.nil, hown, rfl, rfl, rfl, Nat.le_refl _, fun _ _ _ => rfl⟩
  · have eg : ∀ args w, (callFunc 26 args).run Try.prog w = .ok (.enter 26 args) w := enters_of Try.func26 (by kernel_rfl) rfl
    have hb := (Array.getElem?_eq_some_iff.1 hh).1
    have hcon := AnyQ.slices_SortFunc Try.sortRuns 2 Try.isAgg34 Try.sizeOf34 rv rv_len (fun x v hv => by simp [rv] at hv; rcases hv with rfl | rfl <;> rfl) rcf rswo 26 #[] g 0 cap ss.toArray w eg (fun _ _ _ _ x y => runs_cmp x y _) (holdsK_of_block (by omega) rv_len hh h4) hb (by simpa using hsz)
    refine hcon.mono ?_
    rintro x w' ⟨rfl, d', n, os, hp, hs, rfl⟩
    obtain ⟨hp1, _, hp3⟩ := hp
    have hd : d'.toList.length = ss.length := by rw [Array.length_toList, hp1]; simp
    have hpm : d'.toList.Perm ss := by
      have := hp3
      simp at this
      rw [List.take_of_length_le (by omega)] at this
      exact this
    have ed : d'.toList.toArray = d' := Array.toArray_toList
    refine ⟨rfl, d'.toList, hpm, ?_, ?_, ?_⟩
    · rw [List.pairwise_iff_getElem]
      intro i j hi hj hij
      have h9 := hs i j (Nat.zero_le _) hij (by simp; omega)
      rw [rlt, getElem!_pos d' j (by simpa using hj), getElem!_pos d' i (by simpa using hi)] at h9
      simp at h9 ⊢
      exact h9
    · have := ownsRow_sortedK (enc := rv) (by omega) rv_len (ts := d'.toList) (ss := ss) (n := n) (os := os) hd hg hh h1 h2 h3
      rw [ed] at this
      exact this
    · exact grownBy_sortedK _
end Go.Proofs.Ytmmjkebhcihjlaa
