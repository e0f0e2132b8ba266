/- What told of layer 21 tells. -/
import Derived.Test.YtephgikeofkblaaHosl
import Derived.Test.YtephgikeofkblaaPlace
namespace Go.Proofs.Ytephgikeofkblaa
open Go.RowKit Mf

theorem below_only {S : Nat → Prop} {B : Nat} {w w1 w2 : World} (hb : Below B w w1) (ho : Only S w1 w2) (hS : ∀ k, S k → B ≤ k) (hB : B ≤ w1.heap.size) : Below B w w2 := hb.trans (ho.to_below hS hB)

def f0 : Int → Option Pg := fun _ => none
def f1 := setF f0 1 ⟨9, false, 0, 0⟩
def f2 := lendF f1 1 2 7
def f3 := dropF f2 1
def f4 := backF f3 1
def f5 := dropF f4 1
theorem m1 : lendE f1 1 = 0 := by decide +kernel
theorem m2 : (pgAt f2 1).g = 2 ∧ (pgAt f2 1).p = 7 ∧ (pgAt f2 1).lent = true := by decide +kernel
theorem m3 : dropE f2 1 = (0, 24) := by decide +kernel
theorem m4 : backE f3 1 = 0 := by decide +kernel
theorem m5 : dropE f4 1 = (9, 0) := by decide +kernel
theorem m6 : frameS f5 1 = (0, 23) := by decide +kernel
theorem f5_none (k : Int) : f5 k = none := by
  by_cases hk : k = 1
  · subst hk; decide +kernel
  · have e0 : f1 k = none := by unfold f1 setF; rw [if_neg hk]; rfl
    have e1 : f2 = setF f1 1 ⟨9, true, 2, 7⟩ := rfl
    have e2 : f3 = f2 := rfl
    have e3 : f4 = setF f3 1 ⟨9, false, 0, 0⟩ := rfl
    have e4 : f5 = delF f4 1 := rfl
    rw [e4]; unfold delF; rw [if_neg hk, e3]; unfold setF; rw [if_neg hk, e2, e1]; unfold setF; rw [if_neg hk, e0]

set_option maxHeartbeats 1000000 in
theorem told_any (w : World) : Calls Try.prog 22 #[] w fun e w' => e = .returned (.bool true) ∧ Below w.heap.size w w' := by
  have wf1 : (Lit.int .i64 1).wf = true := wf_small (k := 1) (by decide)
  go_enter Try.func22, Try.ntmps22
  go_wp2_with fail
  refine (new_any _).mono ?_; rintro e w1 ⟨rfl, h1, hb1⟩
  have H1 := Lib.hid h1
  have HB1 := Lib.hid hb1
  clear h1 hb1
  go_wp2_with fail
  refine (add_ok _ _ _ _ _ 9 _ H1.out (by decide) (by decide) (by decide)).mono ?_; rintro e w2 ⟨rfl, h2, ho2⟩
  have HB2 := Lib.hid (below_only HB1.out ho2 (by rintro k (rfl | rfl) <;> omega) HB1.out.size)
  have H2 := Lib.hid (show BookAt w2 (w.heap.size + 1) w.heap.size 1 1 f1 from h2)
  have hgt : w.heap.size + 1 < w2.heap.size := h2.blk.lt
  clear h2 ho2
  go_wp2_with fail
  have H2a := H2.out.below ((Below.refl w2.heap.size w2).alloc (Nat.le_refl _) (.cells #[.int .i64 2, .int .u64 7] 31))
  have HP := Lib.hid (Blk.new w2 31 #[.int .i64 2, .int .u64 7])
  have HB2a := Lib.hid (HB2.out.alloc HB2.out.size (.cells #[.int .i64 2, .int .u64 7] 31))
  refine (lend_any _ _ _ _ _ 1 2 7 _ H2a wf1 (by decide)).mono ?_; rintro e w3 ⟨rfl, h3, ho3⟩
  rw [m1]
  have H3 := Lib.hid (show BookAt w3 (w.heap.size + 1) w.heap.size 2 1 f2 from h3)
  have HB3 := Lib.hid (below_only HB2a.out ho3 (by rintro k rfl; exact Nat.le_refl _) HB2a.out.size)
  have HP3 := Lib.hid (HP.out.only ho3 (by omega))
  clear h3 ho3 H2a
  go_wp2_with fail
  refine (lent_any _ _ _ _ _ 1 _ H3.out wf1).mono ?_; rintro e w4 ⟨rfl, hb4⟩
  rw [m2.1, m2.2.1, m2.2.2]
  have H4 := Lib.hid ((H3.out.below hb4).below ((Below.refl w4.heap.size w4).alloc (Nat.le_refl _) (.cells #[.int .i64 2, .int .u64 7] 31)))
  have HB4 := Lib.hid ((HB3.out.trans (hb4.mono HB3.out.size)).alloc (HB3.out.trans (hb4.mono HB3.out.size)).size (.cells #[.int .i64 2, .int .u64 7] 31))
  have HP4 := Lib.hid ((HP3.out.below hb4 HP3.out.lt).alloc (.cells #[.int .i64 2, .int .u64 7] 31))
  have HQ4 := Lib.hid (Blk.new w4 31 #[.int .i64 2, .int .u64 7])
  have hgt4 : w.heap.size < w4.heap.size := Nat.lt_of_lt_of_le H3.out.m.lt hb4.size
  clear hb4
  go_wp2_with fail
  refine (drop_any _ _ _ _ _ 1 _ H4.out wf1).mono ?_; rintro e w5 ⟨rfl, h5, ho5⟩
  rw [m3]
  have H5 := Lib.hid (show BookAt w5 (w.heap.size + 1) w.heap.size 2 1 f3 from h5)
  have HB5 := Lib.hid (below_only HB4.out ho5 (by rintro k rfl; exact Nat.le_refl _) HB4.out.size)
  have HP5 := Lib.hid (HP4.out.only ho5 (by omega))
  have HQ5 := Lib.hid (HQ4.out.only ho5 (by omega))
  clear h5 ho5
  go_wp2_with fail
  refine (back_any _ _ _ _ _ 1 _ H5.out wf1 (by decide)).mono ?_; rintro e w6 ⟨rfl, h6, ho6⟩
  rw [m4]
  have H6 := Lib.hid (show BookAt w6 (w.heap.size + 1) w.heap.size 3 1 f4 from h6)
  have HB6 := Lib.hid (below_only HB5.out ho6 (by rintro k rfl; exact Nat.le_refl _) HB5.out.size)
  have HP6 := Lib.hid (HP5.out.only ho6 (by omega))
  have HQ6 := Lib.hid (HQ5.out.only ho6 (by omega))
  clear h6 ho6
  go_wp2_with fail
  refine (drop_any _ _ _ _ _ 1 _ H6.out wf1).mono ?_; rintro e w7 ⟨rfl, h7, ho7⟩
  rw [m5]
  have H7 := Lib.hid (show BookAt w7 (w.heap.size + 1) w.heap.size 3 1 f5 from h7)
  have HB7 := Lib.hid (below_only HB6.out ho7 (by rintro k rfl; exact Nat.le_refl _) HB6.out.size)
  have HP7 := Lib.hid (HP6.out.only ho7 (by omega))
  have HQ7 := Lib.hid (HQ6.out.only ho7 (by omega))
  clear h7 ho7
  go_wp2_with fail
  refine (frame_any _ _ _ _ _ 1 _ H7.out wf1).mono ?_; rintro e w8 ⟨rfl, hb8⟩
  rw [m6]
  have H8 := Lib.hid (H7.out.below hb8)
  have HB8 := Lib.hid (HB7.out.trans (hb8.mono HB7.out.size))
  have p0 := ((HP7.out.below hb8 HP7.out.lt).cell 0).trans rfl
  have p1 := ((HP7.out.below hb8 HP7.out.lt).cell 1).trans rfl
  have q0 := ((HQ7.out.below hb8 HQ7.out.lt).cell 0).trans rfl
  have q1 := ((HQ7.out.below hb8 HQ7.out.lt).cell 1).trans rfl
  clear hb8
  have e1 : ∀ W, (binOp .eql 31 (.agg #[.int .i64 2, .int .u64 7]) (.agg #[.int .i64 2, .int .u64 7])).run Try.prog W = .ok (.bool true) W := fun W => by rw [place_eql]; rfl
  go_wp2_with fail
  refine (list_any _ _ _ _ _ [] _ H8.out (by simp) (by simp) (fun k hk => by rw [f5_none] at hk; cases hk)).mono ?_; rintro e w9 ⟨v, rfl, hown, hb9⟩
  have hv : v = .slice none 0 0 ∨ ∃ A c, v = .slice A 0 c := by
    rcases hown.2 with ⟨rfl, _⟩ | ⟨g, cap, cur, rfl, _⟩
    · exact .inl rfl
    · exact .inr ⟨_, _, rfl⟩
  have HB9 := Lib.hid (HB8.out.trans (hb9.mono HB8.out.size))
  clear hown hb9
  rcases hv with rfl | ⟨A, c, rfl⟩
  · go_wp2
    go_ret
    exact ⟨rfl, HB9.out⟩
  · go_wp2
    go_ret
    exact ⟨rfl, HB9.out⟩
end Go.Proofs.Ytephgikeofkblaa
