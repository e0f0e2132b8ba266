/- The laws' told. -/
import Derived.Test.YtmmjkebhcihjlaaBup
import Derived.Test.YtmmjkebhcihjlaaPai
namespace Go.Proofs.Ytmmjkebhcihjlaa
open Go.RowKit

theorem own_slice {w : World} {base size n : Nat} {e : TypeId} {v : Value} {xs : List Value} (h : w.ownsRow base e size v n xs) (hn : 0 < n) : ∃ g cc, v = .slice (some ⟨g, 0, none⟩) n cc ∧ base ≤ g ∧ g < w.heap.size ∧ ∀ j, j < n * size → w.cell? ⟨g, j, none⟩ = xs[j]? := by
  rcases h.2 with ⟨_, h0⟩ | ⟨g, cap, cur, rfl, _⟩
  · omega
  · exact ⟨g, cap, rfl, (h.lt g rfl).1, (h.lt g rfl).2, fun j hj => h.cellAt j hj⟩

/-- Below the call's first world, behind a turn of the buddy. -/
theorem BdTo.bel {w0 w w' : World} {W c fi n : Nat} {S S' : Nat → Bool} {B : Nat → Prop} (h : BdTo w w' W c fi n S' B) (hb : Below w0.heap.size w0 w) (h0 : BdAt w W c fi n S B) (hW : w0.heap.size ≤ W) : Below w0.heap.size w0 w' := by
  obtain ⟨B', _, h2, _⟩ := h
  exact hb.trans (h2.to_below (fun k hk => by have := (h0.lt hk).1; omega) hb.size)

set_option maxRecDepth 100000 in
set_option maxHeartbeats 4000000 in
theorem told_any (w : World) : Calls Try.prog 8 #[] w fun e w' => e = .returned (.bool true) ∧ Below w.heap.size w w' := by
  have C1 : Calls Try.prog 9 #[.int .i64 2, .int .i64 7] w fun e w' => e = .returned (.tuple #[.pointer (some ⟨w.heap.size, 0, none⟩), .int .i64 0]) ∧ (∃ B, BdAt w' w.heap.size w.heap.size 2 7 T0 B) ∧ Below w.heap.size w w' := lnew_ok 2 7 w (by decide) (by decide)
  have C2 := fun w' : World => bnew_bad (-1) 7 w' (.inl (by decide))
  go_enter Try.func8, Try.ntmps8
  go_wp2_with fail
  refine C1.mono ?_; rintro e w1 ⟨rfl, ⟨B1, h1⟩, hb1⟩
  have H1 := Lib.hid h1
  have HB1 := Lib.hid hb1
  clear h1 hb1 C1
  go_wp2_with fail
  refine (C2 _).mono ?_; rintro e w1' ⟨rfl, rfl⟩
  clear C2
  go_wp2_with fail
  refine (lruns H1.out).mono ?_; rintro e w2 ⟨v, ts, rfl, hr, hown, hb⟩
  obtain rfl := hr.unique runsT0
  have H2 := Lib.hid (H1.out.below hb)
  have HB2 := Lib.hid (HB1.out.trans (hb.mono HB1.out.size))
  have HO2 := Lib.hid hown
  have HV2 := Lib.hid (show ∀ g, v.ownBlock = some g → ¬ B1 g from fun g hg hB => by have := (H1.out.lt hB).2; have := (hown.lt g hg).1; omega)
  clear hr hown hb
  go_wp2_with fail
  have C3 : Calls Try.prog 11 #[.pointer (some ⟨w.heap.size, 0, none⟩), .int .i64 0] w2 fun e w' => e = .returned (.tuple #[.int .i64 8, .int .i64 0]) ∧ BdTo w2 w' w.heap.size w.heap.size 2 7 T1 B1 := ltake_some H2.out leastT0
  refine C3.mono ?_; rintro e w3 ⟨rfl, ht⟩
  have HO3 := Lib.hid (ht.own HO2.out HV2.out)
  have HB3 := Lib.hid (ht.bel HB2.out H2.out (Nat.le_refl _))
  obtain ⟨B3, h3, _, hs3⟩ := ht
  have H3 := Lib.hid h3
  have HV3 := Lib.hid (show ∀ g, v.ownBlock = some g → ¬ B3 g from fun g hg hB => by
    rcases hs3 g hB with h | h
    · exact HV2.out g hg h
    · have := (HO2.out.lt g hg).2; omega)
  clear h3 hs3 C3
  go_wp2_with fail
  have C4 : Calls Try.prog 11 #[.pointer (some ⟨w.heap.size, 0, none⟩), .int .i64 0] w3 fun e w' => e = .returned (.tuple #[.int .i64 2, .int .i64 0]) ∧ BdTo w3 w' w.heap.size w.heap.size 2 7 T2 B3 := ltake_some H3.out leastT1
  refine C4.mono ?_; rintro e w4 ⟨rfl, ht⟩
  have HO4 := Lib.hid (ht.own HO3.out HV3.out)
  have HB4 := Lib.hid (ht.bel HB3.out H3.out (Nat.le_refl _))
  obtain ⟨B4, h4, _, hs4⟩ := ht
  have H4 := Lib.hid h4
  clear h4 hs4 C4
  go_wp2_with fail
  have C5 : Calls Try.prog 11 #[.pointer (some ⟨w.heap.size, 0, none⟩), .int .i64 3] w4 fun e w' => e = .returned (.tuple #[.int .i64 0, .int .i64 10]) ∧ w4 = w' := ltake_none H4.out (o := 3) (by decide) noneT2
  refine C5.mono ?_; rintro e w5 ⟨rfl, rfl⟩
  clear C5
  go_wp2_with fail
  refine (lruns H4.out).mono ?_; rintro e w5 ⟨u, us, rfl, hr, hown, hb⟩
  obtain rfl := hr.unique runsT2
  have H5 := Lib.hid (H4.out.below hb)
  have HB5 := Lib.hid (HB4.out.trans (hb.mono HB4.out.size))
  have HO5 := Lib.hid (own_below HO4.out hb)
  obtain ⟨g1, cc1, rfl, _, _, hc1⟩ := own_slice HO5.out (by decide)
  obtain ⟨g2, cc2, rfl, _, _, hc2⟩ := own_slice hown (by decide)
  have a0 : w5.cell? ⟨g1, 0, none⟩ = some (.int .i64 2) := hc1 0 (by decide)
  have a1 : w5.cell? ⟨g1, 1, none⟩ = some (.int .i64 1) := hc1 1 (by decide)
  have a2 : w5.cell? ⟨g1, 2, none⟩ = some (.int .i64 4) := hc1 2 (by decide)
  have a3 : w5.cell? ⟨g1, 3, none⟩ = some (.int .i64 2) := hc1 3 (by decide)
  have a4 : w5.cell? ⟨g1, 4, none⟩ = some (.int .i64 8) := hc1 4 (by decide)
  have a5 : w5.cell? ⟨g1, 5, none⟩ = some (.int .i64 0) := hc1 5 (by decide)
  have b0 : w5.cell? ⟨g2, 0, none⟩ = some (.int .i64 3) := hc2 0 (by decide)
  have b1 : w5.cell? ⟨g2, 1, none⟩ = some (.int .i64 0) := hc2 1 (by decide)
  have e1 : ∀ W, (binOp .eql 34 (.agg #[.int .i64 2, .int .i64 1]) (.agg #[.int .i64 2, .int .i64 1])).run Try.prog W = .ok (.bool true) W := fun W => by rw [pair_eql]; rfl
  have e2 : ∀ W, (binOp .eql 34 (.agg #[.int .i64 4, .int .i64 2]) (.agg #[.int .i64 4, .int .i64 2])).run Try.prog W = .ok (.bool true) W := fun W => by rw [pair_eql]; rfl
  have e3 : ∀ W, (binOp .eql 34 (.agg #[.int .i64 8, .int .i64 0]) (.agg #[.int .i64 8, .int .i64 0])).run Try.prog W = .ok (.bool true) W := fun W => by rw [pair_eql]; rfl
  have e4 : ∀ W, (binOp .eql 34 (.agg #[.int .i64 3, .int .i64 0]) (.agg #[.int .i64 3, .int .i64 0])).run Try.prog W = .ok (.bool true) W := fun W => by rw [pair_eql]; rfl
  clear hr hown hb hc1 hc2 HO2 HO3 HO4 HO5 HV2 HV3
  go_wp2_with fail
  have C6 : Calls Try.prog 15 #[.pointer (some ⟨w.heap.size, 0, none⟩)] w5 fun e w' => e = .returned (.int .i64 5) ∧ w5 = w' := by
    have := lfree H5.out
    rw [cntT2] at this
    exact this
  refine C6.mono ?_; rintro e w6 ⟨rfl, rfl⟩
  clear C6
  go_wp2_with fail
  have C7 : Calls Try.prog 13 #[.pointer (some ⟨w.heap.size, 0, none⟩), .int .i64 8, .int .i64 0] w5 fun e w' => e = .returned (.int .i64 0) ∧ BdTo w5 w' w.heap.size w.heap.size 2 7 T3 B4 := lgive_ok H5.out (f := 8) (o := 0) (by decide) (by decide) (by decide) (by decide) T2_8
  refine C7.mono ?_; rintro e w6 ⟨rfl, ht⟩
  have HB6 := Lib.hid (ht.bel HB5.out H5.out (Nat.le_refl _))
  obtain ⟨B6, h6, _, _⟩ := ht
  have H6 := Lib.hid h6
  clear h6 C7 a0 a1 a2 a3 a4 a5 b0 b1
  go_wp2_with fail
  have C8 : Calls Try.prog 13 #[.pointer (some ⟨w.heap.size, 0, none⟩), .int .i64 8, .int .i64 0] w6 fun e w' => e = .returned (.int .i64 20) ∧ ∃ q, w' = w6.drewN q := lgive_state H6.out (f := 8) (o := 0) (by decide) (by decide) (by decide) (by decide) ⟨8, by decide, by decide, T3_8⟩
  refine C8.mono ?_; rintro e w7 ⟨rfl, q7, rfl⟩
  have H7 := Lib.hid (H6.out.drewN q7)
  have HB7 := Lib.hid (below_drewN HB6.out q7)
  generalize w6.drewN q7 = w7 at *
  clear C8
  go_wp2_with fail
  have C9 := lhas H7.out 2
  rw [hasT3_2] at C9
  refine C9.mono ?_; rintro e w8 ⟨rfl, q8, rfl⟩
  have H8 := Lib.hid (H7.out.drewN q8)
  have HB8 := Lib.hid (below_drewN HB7.out q8)
  generalize w7.drewN q8 = w8 at *
  clear C9
  go_wp2_with fail
  have C10 := lhas H8.out 3
  rw [hasT3_3] at C10
  refine C10.mono ?_; rintro e w9 ⟨rfl, q9, rfl⟩
  have HB9 := Lib.hid (below_drewN HB8.out q9)
  clear C10
  go_wp2
  go_ret
  exact ⟨rfl, HB9.out⟩
end Go.Proofs.Ytmmjkebhcihjlaa
