/- What told of layer 11 tells. -/
import Derived.Test.YtibklcjjdnhkdaaLedi
namespace Go.Proofs.Ytibklcjjdnhkdaa
open Go.RowKit Mf

def f0 : Int → Option (Int × Int) := fun _ => none
def f1 := aftS 9 f0 5 3 3
def f2 := aftS 9 f1 5 6 3
def f3 := aftS 9 f2 5 4 3

theorem m0 : mayS 9 (ent f0 5) 5 3 3 = 0 := by decide +kernel
theorem m1 : mayS 9 (ent f1 5) 5 6 3 = 0 := by decide +kernel
theorem m2 : mayS 9 (ent f2 5) 5 7 2 = 21 := by decide +kernel
theorem m3 : mayS 9 (ent f2 5) 5 4 3 = 20 := by decide +kernel
theorem m4 : ent f3 5 = (5, 3) := by decide +kernel
theorem m5 : cntF 9 f3 5 (-1) = 1 := by decide +kernel
theorem m6 : ((frs 9).filter fun i => hasS (ent f3 i) 5 3) = [5] := by decide +kernel
theorem m7 : mayS 9 (ent f3 9) 9 2 0 = 2 := by decide +kernel

/-- A ledger as the package keeps it. -/
def Inv (n : Int) (f : Int → Option (Int × Int)) : Prop := (∀ k, (f k).isSome = true → 0 ≤ k ∧ k < n) ∧ ∀ k x, f k = some x → x.1 ≠ 0

theorem Inv.new (n : Int) : Inv n (fun _ => none) := And.intro (fun _ h => by cases h) (fun _ _ h => by cases h)

theorem Inv.aft {n : Int} {f : Int → Option (Int × Int)} (h : Inv n f) (frame act party : Int) : Inv n (aftS n f frame act party) := by
  unfold aftS
  by_cases hm : mayS n (ent f frame) frame act party = 0
  · rw [if_pos hm]
    obtain ⟨hf, _⟩ := may0 hm
    unfold putS
    constructor
    · intro k hk
      dsimp only at hk
      by_cases hkf : k = frame
      · subst hkf; exact hf
      · rw [if_neg hkf] at hk; exact h.1 k hk
    · intro k x hk
      dsimp only at hk
      by_cases hkf : k = frame
      · rw [if_pos hkf] at hk
        by_cases ht : (nowS (ent f frame) act party).1 = 0
        · rw [if_pos ht] at hk; cases hk
        · rw [if_neg ht] at hk; cases hk; exact ht
      · rw [if_neg hkf] at hk; exact h.2 k x hk
  · rw [if_neg hm]; exact h

set_option maxHeartbeats 1000000 in
theorem told_any (w : World) : Calls Try.prog 7 #[] w fun e w' => e = .returned (.bool true) ∧ Below w.heap.size w w' := by
  have wf5 : (Lit.int .i64 5).wf = true := wf_small (k := 5) (by decide)
  have wf9 : (Lit.int .i64 9).wf = true := wf_small (k := 9) (by decide)
  go_enter Try.func7, Try.ntmps7
  go_wp2_with fail
  refine (new_ok 9 _ (by decide) (by decide)).mono ?_; rintro e w1 ⟨rfl, h1, hb1⟩
  go_wp2_with fail
  refine (new_no 0 _ (by decide)).mono ?_; rintro e w2 ⟨rfl, rfl⟩
  have H1 := Lib.hid h1
  have HB1 := Lib.hid hb1
  clear h1 hb1
  go_wp2_with fail
  refine (do_any _ _ _ _ _ 5 3 3 _ H1.out wf5 (by decide) w.heap.size (by omega) (by omega)).mono ?_; rintro e w2 ⟨rfl, h2, hb2⟩
  rw [show mayS 9 (ent (fun _ => none) 5) 5 3 3 = 0 from m0]
  have H2 := Lib.hid (show LedAt w2 (w.heap.size + 1) w.heap.size 1 9 f1 from h2)
  have HB2 := Lib.hid (HB1.out.trans hb2)
  clear h2 hb2
  go_wp2_with fail
  refine (do_any _ _ _ _ _ 5 6 3 _ H2.out wf5 (by decide) w.heap.size (by omega) (by omega)).mono ?_; rintro e w3 ⟨rfl, h3, hb3⟩
  rw [m1]
  have H3 := Lib.hid (show LedAt w3 (w.heap.size + 1) w.heap.size 2 9 f2 from h3)
  have HB3 := Lib.hid (HB2.out.trans hb3)
  clear h3 hb3
  go_wp2_with fail
  refine (may_any _ _ _ _ _ 5 7 2 _ H3.out wf5).mono ?_; rintro e w4 ⟨rfl, hb4⟩
  rw [m2]
  have H4 := Lib.hid (H3.out.below hb4)
  have HB4 := Lib.hid (HB3.out.trans (hb4.mono HB3.out.size))
  clear hb4
  go_wp2_with fail
  refine (do_any _ _ _ _ _ 5 4 3 _ H4.out wf5 (by decide) w.heap.size (by omega) (by omega)).mono ?_; rintro e w5 ⟨rfl, h5, hb5⟩
  rw [m3]
  have H5 := Lib.hid (show LedAt w5 (w.heap.size + 1) w.heap.size 3 9 f3 from h5)
  have HB5 := Lib.hid (HB4.out.trans hb5)
  clear h5 hb5
  go_wp2_with fail
  refine (get_any _ _ _ _ _ 5 _ H5.out wf5).mono ?_; rintro e w6 ⟨rfl, hb6⟩
  rw [m4]
  have H6 := Lib.hid (H5.out.below hb6)
  have HB6 := Lib.hid (HB5.out.trans (hb6.mono HB5.out.size))
  clear hb6
  have hI : Inv 9 f3 := (((Inv.new 9).aft 5 3 3).aft 5 6 3).aft 5 4 3
  obtain ⟨ks, hk1, hk2, hcnt⟩ := count_any _ _ _ _ _ 5 (-1) w6 H6.out (by decide) hI.1
  rw [cntS_eq (by decide) hk1 hk2 hI.1, m5] at hcnt
  go_wp2_with fail
  refine hcnt.mono ?_; rintro e w7 ⟨rfl, hb7⟩
  have H7 := Lib.hid (H6.out.below hb7)
  have HB7 := Lib.hid (HB6.out.trans (hb7.mono HB6.out.size))
  clear hb7 hcnt hk1 hk2
  have hlist := list_any _ _ _ _ _ 5 3 w7 H7.out (by decide) hI.1 hI.2
  rw [m6, show cntF 9 f3 5 3 = 1 from by unfold cntF; rw [m6]; rfl] at hlist
  go_wp2_with fail
  refine hlist.mono ?_; rintro e w8 ⟨v, rfl, hown, hb8⟩
  have H8 := Lib.hid (H7.out.below hb8)
  have HB8 := Lib.hid (HB7.out.trans (hb8.mono HB7.out.size))
  obtain ⟨g, c, rfl, hq1, hq2⟩ := hown.form (by decide)
  have HO := Lib.hid hown
  clear hb8 hlist hown
  go_wp2_with fail
  have r1 := (Reads.of_own HO.out).alloc (Nat.le_refl _) (.cells #[.int .i64 5] 3)
  refine (ints_any _ _ 1 1 c 1 _ _ [5] [5] _ r1 (reads_one1 w8 (.int .i64 5) 3) (by decide)).mono ?_; rintro e w9 ⟨rfl, hb9⟩
  have hb9' : Below w8.heap.size w8 w9 := ((Below.refl _ _).alloc (Nat.le_refl _) _).trans (hb9.mono (by simp))
  have H9 := Lib.hid (H8.out.below hb9')
  have HB9 := Lib.hid (HB8.out.trans (hb9'.mono HB8.out.size))
  rw [show decide (([5] : List Int) = [5]) = true from rfl]
  clear hb9 hb9' r1
  go_wp2_with fail
  refine (do_any _ _ _ _ _ 9 2 0 _ H9.out wf9 (by decide) w.heap.size (by omega) (by omega)).mono ?_; rintro e w10 ⟨rfl, h10, hb10⟩
  rw [m7]
  have HB10 := Lib.hid (HB9.out.trans hb10)
  clear h10 hb10
  go_wp2
  go_ret
  exact ⟨rfl, HB10.out⟩

end Go.Proofs.Ytibklcjjdnhkdaa
