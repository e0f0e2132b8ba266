/- The laws' told. -/
import Derived.Test.YtdnfjpelhiniaaaRmi
import Derived.Test.YtdnfjpelhiniaaaTake
namespace Go.Proofs.Ytdnfjpelhiniaaa
open Go.RowKit Mf

/-- The map, and the two places of told, in memory. -/
structure Td (w wr : World) (N : Nat) (u : Int → Plc → Bool) (B : Nat → Prop) (ga gb : Nat) : Prop where
  mp : Mp wr w.heap.size (w.heap.size + 1) N u B
  be : Below w.heap.size w wr
  ba : Blk wr ga 31 #[.int .i64 2, .int .u64 7]
  bb : Blk wr gb 31 #[.int .i64 1, .int .u64 9]
  na : ¬ B ga
  nb : ¬ B gb
theorem Td.fresh {w wr w' : World} {N : Nat} {u : Int → Plc → Bool} {B : Nat → Prop} {ga gb : Nat} (h : Td w wr N u B ga gb) (hb : Below wr.heap.size wr w') : Td w w' N u B ga gb :=
  ⟨h.mp.below hb, h.be.trans (hb.mono h.be.size), h.ba.below hb h.ba.lt, h.bb.below hb h.bb.lt, h.na, h.nb⟩
theorem Td.to {w wr w' : World} {N N' : Nat} {u u' : Int → Plc → Bool} {B : Nat → Prop} {ga gb : Nat} (h : Td w wr N u B ga gb) (ht : MpTo wr w' w.heap.size (w.heap.size + 1) N' u' B) : ∃ B', Td w w' N' u' B' ga gb := by
  have hb := ht.bel h.be h.mp (Nat.le_refl _)
  obtain ⟨B', h1, h2, h3⟩ := ht
  refine ⟨B', h1, hb, h.ba.only h2 h.na, h.bb.only h2 h.nb, fun hg => ?_, fun hg => ?_⟩
  · rcases h3 _ hg with h4 | h4
    · exact h.na h4
    · have := h.ba.lt; omega
  · rcases h3 _ hg with h4 | h4
    · exact h.nb h4
    · have := h.bb.lt; omega

def TdS (ga gb : Nat) (w : World) : Prop := w.cell? ⟨ga, 0, none⟩ = some (.int .i64 2) ∧ w.cell? ⟨ga, 1, none⟩ = some (.int .u64 7) ∧ w.cell? ⟨gb, 0, none⟩ = some (.int .i64 1) ∧ w.cell? ⟨gb, 1, none⟩ = some (.int .u64 9)
theorem Td.cells {w wr : World} {N : Nat} {u : Int → Plc → Bool} {B : Nat → Prop} {ga gb : Nat} (h : Td w wr N u B ga gb) : TdS ga gb wr := ⟨(h.ba.cell 0).trans rfl, (h.ba.cell 1).trans rfl, (h.bb.cell 0).trans rfl, (h.bb.cell 1).trans rfl⟩

theorem row_two (w : World) (base : Nat) (hB : base ≤ w.heap.size) : PRow (w.alloc (.cells #[.int .i64 1, .int .u64 9, .int .i64 2, .int .u64 7] 31)) base (.slice (some ⟨w.heap.size, 0, none⟩) 2 2) [pb, pa] :=
  World.ownsRow_lit w #[.int .i64 1, .int .u64 9, .int .i64 2, .int .u64 7] 2 hB (by unfold maxLen; omega) rfl
theorem row_five (w : World) (base : Nat) (hB : base ≤ w.heap.size) : IRow (w.alloc (.cells #[.int .i64 5] 3)) base (.slice (some ⟨w.heap.size, 0, none⟩) 1 1) [5] :=
  World.ownsRow_lit w #[.int .i64 5] 1 hB (by unfold maxLen; omega) rfl

set_option maxRecDepth 100000 in
set_option maxHeartbeats 4000000 in
theorem told_any (w : World) : Calls Try.prog 19 #[] w fun e w' => e = .returned (.bool true) ∧ Below w.heap.size w w' := by
  go_enter Try.func19, Try.ntmps19
  go_wp2_with fail
  refine (lnew w).mono ?_; rintro e w1 ⟨rfl, ⟨B1, h1⟩, hb1⟩
  have H1 := Lib.hid h1
  have HB1 := Lib.hid hb1
  clear h1 hb1
  go_upto_region 5 with fail
  obtain ⟨wc, hwc⟩ : ∃ x : World, ((w1.alloc (.cells #[.int .i64 2, .int .u64 7] 31)).alloc (.cells #[.int .i64 1, .int .u64 9] 31)) = x := ⟨_, rfl⟩
  rw [hwc]
  have HT := Lib.hid (show Td w wc 0 u0 B1 w1.heap.size (w1.heap.size + 1) from by
    rw [← hwc]
    have hb : Below w1.heap.size w1 ((w1.alloc (.cells #[.int .i64 2, .int .u64 7] 31)).alloc (.cells #[.int .i64 1, .int .u64 9] 31)) := ((Below.refl _ _).alloc (Nat.le_refl _) _).alloc (by simp) _
    exact ⟨H1.out.below hb, HB1.out.trans (hb.mono HB1.out.size), (Blk.new _ _ _).alloc _, (by have := Blk.new (w1.alloc (.cells #[.int .i64 2, .int .u64 7] 31)) 31 #[.int .i64 1, .int .u64 9]; simpa using this), fun h => by have := (H1.out.lt h).2; omega, fun h => by have := (H1.out.lt h).2; omega⟩)
  clear hwc H1 HB1
  generalize w1.heap.size + 1 = gb at *
  generalize w1.heap.size = ga at *
  have HT := Lib.hid (HT.out.fresh (Below.refl _ _).drew)
  have hC := HT.out.cells
  refine wp_region_held_drew (S := (fun w' => w'.cell? ⟨ga, 0, none⟩ = some (.int .i64 2) ∧ w'.cell? ⟨ga, 1, none⟩ = some (.int .u64 7) ∧ w'.cell? ⟨gb, 0, none⟩ = some (.int .i64 1) ∧ w'.cell? ⟨gb, 1, none⟩ = some (.int .u64 9))) (by kernel_rfl) ?_ (fun hHeld => ?_)
  · exact hC
  clear hC
  generalize wc.drew = wn at *
  obtain ⟨wc, rfl⟩ : ∃ x : World, x = wn := ⟨_, rfl⟩
  ((refine takeY 0 (v := ?_) rfl (by kernel_rfl) (by kernel_rfl) (by kernel_rfl) (fun _ _ _ h => h) (by rfl) (by assumption) ?_ ?_; rotate_left; · (intro w hSw; (try dsimp only at hSw); go_simp; (first | done | with_reducible rfl))))
  (try simp only [Act.put, List.setIfInBounds_toArray, List.set_cons_zero, List.set_cons_succ])
  ((refine takeY 1 (v := ?_) rfl (by kernel_rfl) (by kernel_rfl) (by kernel_rfl) (fun _ _ _ h => h) (by rfl) (by assumption) ?_ ?_; rotate_left; · (intro w hSw; (try dsimp only at hSw); go_simp; (first | done | with_reducible rfl))))
  (try simp only [Act.put, List.setIfInBounds_toArray, List.set_cons_zero, List.set_cons_succ])
  refine stepH 2 rfl (by kernel_rfl) (by rfl) (fun K hK => ?_)
  go_simp
  refine (ladd HT.out.mp 5 wf5 pa (by decide) (by have := HT.out.be.size; omega)).mono ?_; rintro e wn ⟨rfl, hto⟩
  rw [m1]
  obtain ⟨Bn, ht⟩ := HT.out.to hto
  replace HT := Lib.hid (show Td w wn 2 u1 Bn ga gb from ht)
  clear hto ht
  (refine hK.out _ _ ?_ (fun hHeld => ?_))
  · exact HT.out.cells
  clear hK K
  obtain ⟨wc, rfl⟩ : ∃ x : World, x = wn := ⟨_, rfl⟩
  ((refine takeY 3 (v := ?_) rfl (by kernel_rfl) (by kernel_rfl) (by kernel_rfl) (fun _ _ _ h => h) (by rfl) (by assumption) ?_ ?_; rotate_left; · (intro w hSw; (try dsimp only at hSw); go_simp; (first | done | with_reducible rfl))))
  (try simp only [Act.put, List.setIfInBounds_toArray, List.set_cons_zero, List.set_cons_succ])
  ((refine takeY 4 (v := ?_) rfl (by kernel_rfl) (by kernel_rfl) (by kernel_rfl) (fun _ _ _ h => h) (by rfl) (by assumption) ?_ ?_; rotate_left; · (intro w hSw; (try dsimp only at hSw); go_simp; (first | done | with_reducible rfl))))
  (try simp only [Act.put, List.setIfInBounds_toArray, List.set_cons_zero, List.set_cons_succ])
  (first | (refine takeN 5 rfl (by kernel_rfl) (by kernel_rfl) (by kernel_rfl) (fun _ _ _ h => h) (by rfl) (by assumption) ?_) | (refine takeY 5 (v := ?_) rfl (by kernel_rfl) (by kernel_rfl) (by kernel_rfl) (fun _ _ _ h => h) (by rfl) (by assumption) ?_ ?_; rotate_left; · (intro w hSw; (try dsimp only at hSw); go_simp; (first | done | with_reducible rfl))))
  (try simp only [Act.put, List.setIfInBounds_toArray, List.set_cons_zero, List.set_cons_succ])
  (first | (refine takeN 6 rfl (by kernel_rfl) (by kernel_rfl) (by kernel_rfl) (fun _ _ _ h => h) (by rfl) (by assumption) ?_) | (refine takeY 6 (v := ?_) rfl (by kernel_rfl) (by kernel_rfl) (by kernel_rfl) (fun _ _ _ h => h) (by rfl) (by assumption) ?_ ?_; rotate_left; · (intro w hSw; (try dsimp only at hSw); go_simp; (first | done | with_reducible rfl))))
  (try simp only [Act.put, List.setIfInBounds_toArray, List.set_cons_zero, List.set_cons_succ])
  refine stepH 7 rfl (by kernel_rfl) (by rfl) (fun K hK => ?_)
  go_simp
  refine (ladd HT.out.mp 5 wf5 pb (by decide) (by have := HT.out.be.size; omega)).mono ?_; rintro e wn ⟨rfl, hto⟩
  rw [m2]
  obtain ⟨Bn, ht⟩ := HT.out.to hto
  replace HT := Lib.hid (show Td w wn 4 u2 Bn ga gb from ht)
  clear hto ht
  (refine hK.out _ _ ?_ (fun hHeld => ?_))
  · exact HT.out.cells
  clear hK K
  obtain ⟨wc, rfl⟩ : ∃ x : World, x = wn := ⟨_, rfl⟩
  (first | (refine takeN 8 rfl (by kernel_rfl) (by kernel_rfl) (by kernel_rfl) (fun _ _ _ h => h) (by rfl) (by assumption) ?_) | (refine takeY 8 (v := ?_) rfl (by kernel_rfl) (by kernel_rfl) (by kernel_rfl) (fun _ _ _ h => h) (by rfl) (by assumption) ?_ ?_; rotate_left; · (intro w hSw; (try dsimp only at hSw); go_simp; (first | done | with_reducible rfl))))
  (try simp only [Act.put, List.setIfInBounds_toArray, List.set_cons_zero, List.set_cons_succ])
  ((refine takeY 9 (v := ?_) rfl (by kernel_rfl) (by kernel_rfl) (by kernel_rfl) (fun _ _ _ h => h) (by rfl) (by assumption) ?_ ?_; rotate_left; · (intro w hSw; (try dsimp only at hSw); go_simp; (first | done | with_reducible rfl))))
  (try simp only [Act.put, List.setIfInBounds_toArray, List.set_cons_zero, List.set_cons_succ])
  ((refine takeY 10 (v := ?_) rfl (by kernel_rfl) (by kernel_rfl) (by kernel_rfl) (fun _ _ _ h => h) (by rfl) (by assumption) ?_ ?_; rotate_left; · (intro w hSw; (try dsimp only at hSw); go_simp; (first | done | with_reducible rfl))))
  (try simp only [Act.put, List.setIfInBounds_toArray, List.set_cons_zero, List.set_cons_succ])
  (first | (refine takeN 11 rfl (by kernel_rfl) (by kernel_rfl) (by kernel_rfl) (fun _ _ _ h => h) (by rfl) (by assumption) ?_) | (refine takeY 11 (v := ?_) rfl (by kernel_rfl) (by kernel_rfl) (by kernel_rfl) (fun _ _ _ h => h) (by rfl) (by assumption) ?_ ?_; rotate_left; · (intro w hSw; (try dsimp only at hSw); go_simp; (first | done | with_reducible rfl))))
  (try simp only [Act.put, List.setIfInBounds_toArray, List.set_cons_zero, List.set_cons_succ])
  (first | (refine takeN 12 rfl (by kernel_rfl) (by kernel_rfl) (by kernel_rfl) (fun _ _ _ h => h) (by rfl) (by assumption) ?_) | (refine takeY 12 (v := ?_) rfl (by kernel_rfl) (by kernel_rfl) (by kernel_rfl) (fun _ _ _ h => h) (by rfl) (by assumption) ?_ ?_; rotate_left; · (intro w hSw; (try dsimp only at hSw); go_simp; (first | done | with_reducible rfl))))
  (try simp only [Act.put, List.setIfInBounds_toArray, List.set_cons_zero, List.set_cons_succ])
  refine stepH 13 rfl (by kernel_rfl) (by rfl) (fun K hK => ?_)
  go_simp
  refine (ladd HT.out.mp 5 wf5 pa (by decide) (by have := HT.out.be.size; omega)).mono ?_; rintro e wn ⟨rfl, hto⟩
  rw [m3]
  obtain ⟨Bn, ht⟩ := HT.out.to hto
  replace HT := Lib.hid (show Td w wn 6 u3 Bn ga gb from ht)
  clear hto ht
  (refine hK.out _ _ ?_ (fun hHeld => ?_))
  · exact HT.out.cells
  clear hK K
  obtain ⟨wc, rfl⟩ : ∃ x : World, x = wn := ⟨_, rfl⟩
  (first | (refine takeN 14 rfl (by kernel_rfl) (by kernel_rfl) (by kernel_rfl) (fun _ _ _ h => h) (by rfl) (by assumption) ?_) | (refine takeY 14 (v := ?_) rfl (by kernel_rfl) (by kernel_rfl) (by kernel_rfl) (fun _ _ _ h => h) (by rfl) (by assumption) ?_ ?_; rotate_left; · (intro w hSw; (try dsimp only at hSw); go_simp; (first | done | with_reducible rfl))))
  (try simp only [Act.put, List.setIfInBounds_toArray, List.set_cons_zero, List.set_cons_succ])
  ((refine takeY 15 (v := ?_) rfl (by kernel_rfl) (by kernel_rfl) (by kernel_rfl) (fun _ _ _ h => h) (by rfl) (by assumption) ?_ ?_; rotate_left; · (intro w hSw; (try dsimp only at hSw); go_simp; (first | done | with_reducible rfl))))
  (try simp only [Act.put, List.setIfInBounds_toArray, List.set_cons_zero, List.set_cons_succ])
  ((refine takeY 16 (v := ?_) rfl (by kernel_rfl) (by kernel_rfl) (by kernel_rfl) (fun _ _ _ h => h) (by rfl) (by assumption) ?_ ?_; rotate_left; · (intro w hSw; (try dsimp only at hSw); go_simp; (first | done | with_reducible rfl))))
  (try simp only [Act.put, List.setIfInBounds_toArray, List.set_cons_zero, List.set_cons_succ])
  (first | (refine takeN 17 rfl (by kernel_rfl) (by kernel_rfl) (by kernel_rfl) (fun _ _ _ h => h) (by rfl) (by assumption) ?_) | (refine takeY 17 (v := ?_) rfl (by kernel_rfl) (by kernel_rfl) (by kernel_rfl) (fun _ _ _ h => h) (by rfl) (by assumption) ?_ ?_; rotate_left; · (intro w hSw; (try dsimp only at hSw); go_simp; (first | done | with_reducible rfl))))
  (try simp only [Act.put, List.setIfInBounds_toArray, List.set_cons_zero, List.set_cons_succ])
  (first | (refine takeN 18 rfl (by kernel_rfl) (by kernel_rfl) (by kernel_rfl) (fun _ _ _ h => h) (by rfl) (by assumption) ?_) | (refine takeY 18 (v := ?_) rfl (by kernel_rfl) (by kernel_rfl) (by kernel_rfl) (fun _ _ _ h => h) (by rfl) (by assumption) ?_ ?_; rotate_left; · (intro w hSw; (try dsimp only at hSw); go_simp; (first | done | with_reducible rfl))))
  (try simp only [Act.put, List.setIfInBounds_toArray, List.set_cons_zero, List.set_cons_succ])
  refine stepH 19 rfl (by kernel_rfl) (by rfl) (fun K hK => ?_)
  go_simp
  refine (ladd HT.out.mp (-1) wfm1 pa (by decide) (by have := HT.out.be.size; omega)).mono ?_; rintro e wn ⟨rfl, hto⟩
  rw [m4]
  obtain ⟨Bn, ht⟩ := HT.out.to hto
  replace HT := Lib.hid (show Td w wn 8 u4 Bn ga gb from ht)
  clear hto ht
  (refine hK.out _ _ ?_ (fun hHeld => ?_))
  · exact HT.out.cells
  clear hK K
  obtain ⟨wc, rfl⟩ : ∃ x : World, x = wn := ⟨_, rfl⟩
  (first | (refine takeN 20 rfl (by kernel_rfl) (by kernel_rfl) (by kernel_rfl) (fun _ _ _ h => h) (by rfl) (by assumption) ?_) | (refine takeY 20 (v := ?_) rfl (by kernel_rfl) (by kernel_rfl) (by kernel_rfl) (fun _ _ _ h => h) (by rfl) (by assumption) ?_ ?_; rotate_left; · (intro w hSw; (try dsimp only at hSw); go_simp; (first | done | with_reducible rfl))))
  (try simp only [Act.put, List.setIfInBounds_toArray, List.set_cons_zero, List.set_cons_succ])
  ((refine takeY 21 (v := ?_) rfl (by kernel_rfl) (by kernel_rfl) (by kernel_rfl) (fun _ _ _ h => h) (by rfl) (by assumption) ?_ ?_; rotate_left; · (intro w hSw; (try dsimp only at hSw); go_simp; (first | done | with_reducible rfl))))
  (try simp only [Act.put, List.setIfInBounds_toArray, List.set_cons_zero, List.set_cons_succ])
  ((refine takeY 22 (v := ?_) rfl (by kernel_rfl) (by kernel_rfl) (by kernel_rfl) (fun _ _ _ h => h) (by rfl) (by assumption) ?_ ?_; rotate_left; · (intro w hSw; (try dsimp only at hSw); go_simp; (first | done | with_reducible rfl))))
  (try simp only [Act.put, List.setIfInBounds_toArray, List.set_cons_zero, List.set_cons_succ])
  (first | (refine takeN 23 rfl (by kernel_rfl) (by kernel_rfl) (by kernel_rfl) (fun _ _ _ h => h) (by rfl) (by assumption) ?_) | (refine takeY 23 (v := ?_) rfl (by kernel_rfl) (by kernel_rfl) (by kernel_rfl) (fun _ _ _ h => h) (by rfl) (by assumption) ?_ ?_; rotate_left; · (intro w hSw; (try dsimp only at hSw); go_simp; (first | done | with_reducible rfl))))
  (try simp only [Act.put, List.setIfInBounds_toArray, List.set_cons_zero, List.set_cons_succ])
  (first | (refine takeN 25 rfl (by kernel_rfl) (by kernel_rfl) (by kernel_rfl) (fun _ _ _ h => h) (by rfl) (by assumption) ?_) | (refine takeY 25 (v := ?_) rfl (by kernel_rfl) (by kernel_rfl) (by kernel_rfl) (fun _ _ _ h => h) (by rfl) (by assumption) ?_ ?_; rotate_left; · (intro w hSw; (try dsimp only at hSw); go_simp; (first | done | with_reducible rfl))))
  (try simp only [Act.put, List.setIfInBounds_toArray, List.set_cons_zero, List.set_cons_succ])
  (first | (refine takeN 26 rfl (by kernel_rfl) (by kernel_rfl) (by kernel_rfl) (fun _ _ _ h => h) (by rfl) (by assumption) ?_) | (refine takeY 26 (v := ?_) rfl (by kernel_rfl) (by kernel_rfl) (by kernel_rfl) (fun _ _ _ h => h) (by rfl) (by assumption) ?_ ?_; rotate_left; · (intro w hSw; (try dsimp only at hSw); go_simp; (first | done | with_reducible rfl))))
  (try simp only [Act.put, List.setIfInBounds_toArray, List.set_cons_zero, List.set_cons_succ])
  refine wpAnyH_ready (rs := [24, 27]) (by kernel_rfl) (by simp) ?_
  refine consH 24 rfl (by rfl) (fun K hK => ?_) (consH 27 rfl (by rfl) (fun K hK => ?_) (AllReadyH.nil))
  · go_simp
    refine (llist HT.out.mp (by decide) 5 wf5).mono ?_; rintro e wn ⟨v, ts, rfl, hp, hr, hb⟩
    obtain rfl := hp.unique u4_places
    have HL := Lib.hid hr
    replace HT := Lib.hid (HT.out.fresh hb)
    clear hp hr hb
    (refine hK.out _ _ ?_ (fun hHeld => ?_))
    · exact HT.out.cells
    clear hK K
    obtain ⟨wc, rfl⟩ : ∃ x : World, x = wn := ⟨_, rfl⟩
    refine stepH 27 rfl (by kernel_rfl) (by rfl) (fun K hK => ?_)
    go_simp
    (refine hK.out _ _ ?_ (fun hHeld => ?_))
    · exact (HT.out.fresh ((Below.refl _ _).alloc (Nat.le_refl _) _)).cells
    clear hK K
    have HRW := Lib.hid (row_two wc wc.heap.size (Nat.le_refl _))
    replace HL := Lib.hid (own_below HL.out ((Below.refl _ _).alloc (Nat.le_refl _) (.cells #[.int .i64 1, .int .u64 9, .int .i64 2, .int .u64 7] 31)))
    replace HT := Lib.hid (HT.out.fresh ((Below.refl _ _).alloc (Nat.le_refl _) (.cells #[.int .i64 1, .int .u64 9, .int .i64 2, .int .u64 7] 31)))
    generalize hwn : wc.alloc (.cells #[.int .i64 1, .int .u64 9, .int .i64 2, .int .u64 7] 31) = wn at *
    clear hwn
    generalize wc.heap.size = gr at *
    obtain ⟨wc, rfl⟩ : ∃ x : World, x = wn := ⟨_, rfl⟩
    refine stepH 28 rfl (by kernel_rfl) (by rfl) (fun K hK => ?_)
    go_simp
    refine (psame HL.out HRW.out (by decide)).mono ?_; rintro e wn ⟨rfl, q, rfl⟩
    rw [show decide ([pb, pa] = [pb, pa]) = true from by simp]
    replace HT := Lib.hid (HT.out.fresh (below_drewN (Below.refl _ _) q))
    clear HL HRW
    (refine hK.out _ _ ?_ (fun hHeld => ?_))
    · exact HT.out.cells
    clear hK K
    generalize wc.drewN q = wn at *
    obtain ⟨wc, rfl⟩ : ∃ x : World, x = wn := ⟨_, rfl⟩
    ((refine takeY 29 (v := ?_) rfl (by kernel_rfl) (by kernel_rfl) (by kernel_rfl) (fun _ _ _ h => h) (by rfl) (by assumption) ?_ ?_; rotate_left; · (intro w hSw; (try dsimp only at hSw); go_simp; (first | done | with_reducible rfl))))
    (try simp only [Act.put, List.setIfInBounds_toArray, List.set_cons_zero, List.set_cons_succ])
    ((refine takeY 30 (v := ?_) rfl (by kernel_rfl) (by kernel_rfl) (by kernel_rfl) (fun _ _ _ h => h) (by rfl) (by assumption) ?_ ?_; rotate_left; · (intro w hSw; (try dsimp only at hSw); go_simp; (first | done | with_reducible rfl))))
    (try simp only [Act.put, List.setIfInBounds_toArray, List.set_cons_zero, List.set_cons_succ])
    (first | (refine takeN 31 rfl (by kernel_rfl) (by kernel_rfl) (by kernel_rfl) (fun _ _ _ h => h) (by rfl) (by assumption) ?_) | (refine takeY 31 (v := ?_) rfl (by kernel_rfl) (by kernel_rfl) (by kernel_rfl) (fun _ _ _ h => h) (by rfl) (by assumption) ?_ ?_; rotate_left; · (intro w hSw; (try dsimp only at hSw); go_simp; (first | done | with_reducible rfl))))
    (try simp only [Act.put, List.setIfInBounds_toArray, List.set_cons_zero, List.set_cons_succ])
    (first | (refine takeN 32 rfl (by kernel_rfl) (by kernel_rfl) (by kernel_rfl) (fun _ _ _ h => h) (by rfl) (by assumption) ?_) | (refine takeY 32 (v := ?_) rfl (by kernel_rfl) (by kernel_rfl) (by kernel_rfl) (fun _ _ _ h => h) (by rfl) (by assumption) ?_ ?_; rotate_left; · (intro w hSw; (try dsimp only at hSw); go_simp; (first | done | with_reducible rfl))))
    (try simp only [Act.put, List.setIfInBounds_toArray, List.set_cons_zero, List.set_cons_succ])
    refine stepH 33 rfl (by kernel_rfl) (by rfl) (fun K hK => ?_)
    go_simp
    refine (lhas HT.out.mp 5 wf5 pa).mono ?_; rintro e wn ⟨rfl, hb⟩
    rw [m7]
    replace HT := Lib.hid (HT.out.fresh hb)
    clear hb
    (refine hK.out _ _ ?_ (fun hHeld => ?_))
    · exact HT.out.cells
    clear hK K
    obtain ⟨wc, rfl⟩ : ∃ x : World, x = wn := ⟨_, rfl⟩
    ((refine takeY 34 (v := ?_) rfl (by kernel_rfl) (by kernel_rfl) (by kernel_rfl) (fun _ _ _ h => h) (by rfl) (by assumption) ?_ ?_; rotate_left; · (intro w hSw; (try dsimp only at hSw); go_simp; (first | done | with_reducible rfl))))
    (try simp only [Act.put, List.setIfInBounds_toArray, List.set_cons_zero, List.set_cons_succ])
    ((refine takeY 35 (v := ?_) rfl (by kernel_rfl) (by kernel_rfl) (by kernel_rfl) (fun _ _ _ h => h) (by rfl) (by assumption) ?_ ?_; rotate_left; · (intro w hSw; (try dsimp only at hSw); go_simp; (first | done | with_reducible rfl))))
    (try simp only [Act.put, List.setIfInBounds_toArray, List.set_cons_zero, List.set_cons_succ])
    (first | (refine takeN 36 rfl (by kernel_rfl) (by kernel_rfl) (by kernel_rfl) (fun _ _ _ h => h) (by rfl) (by assumption) ?_) | (refine takeY 36 (v := ?_) rfl (by kernel_rfl) (by kernel_rfl) (by kernel_rfl) (fun _ _ _ h => h) (by rfl) (by assumption) ?_ ?_; rotate_left; · (intro w hSw; (try dsimp only at hSw); go_simp; (first | done | with_reducible rfl))))
    (try simp only [Act.put, List.setIfInBounds_toArray, List.set_cons_zero, List.set_cons_succ])
    refine wpAnyH_ready (rs := [37, 38]) (by kernel_rfl) (by simp) ?_
    refine consH 37 rfl (by rfl) (fun K hK => ?_) (consH 38 rfl (by rfl) (fun K hK => ?_) (AllReadyH.nil))
    · go_simp
      refine (lframes HT.out.mp (by decide)).mono ?_; rintro e wn ⟨v, ts, rfl, hp, hr, hb⟩
      obtain rfl := hp.unique u4_frames
      have HL := Lib.hid hr
      replace HT := Lib.hid (HT.out.fresh hb)
      clear hp hr hb
      (refine hK.out _ _ ?_ (fun hHeld => ?_))
      · exact HT.out.cells
      clear hK K
      obtain ⟨wc, rfl⟩ : ∃ x : World, x = wn := ⟨_, rfl⟩
      refine stepH 38 rfl (by kernel_rfl) (by rfl) (fun K hK => ?_)
      go_simp
      (refine hK.out _ _ ?_ (fun hHeld => ?_))
      · exact (HT.out.fresh ((Below.refl _ _).alloc (Nat.le_refl _) _)).cells
      clear hK K
      have HRW := Lib.hid (row_five wc wc.heap.size (Nat.le_refl _))
      replace HL := Lib.hid (own_below HL.out ((Below.refl _ _).alloc (Nat.le_refl _) (.cells #[.int .i64 5] 3)))
      replace HT := Lib.hid (HT.out.fresh ((Below.refl _ _).alloc (Nat.le_refl _) (.cells #[.int .i64 5] 3)))
      generalize hwn : wc.alloc (.cells #[.int .i64 5] 3) = wn at *
      clear hwn
      generalize wc.heap.size = gr at *
      obtain ⟨wc, rfl⟩ : ∃ x : World, x = wn := ⟨_, rfl⟩
      refine stepH 39 rfl (by kernel_rfl) (by rfl) (fun K hK => ?_)
      go_simp
      refine (pints HL.out HRW.out (by decide)).mono ?_; rintro e wn ⟨rfl, q, rfl⟩
      rw [show decide ([(5 : Int)] = [5]) = true from by simp]
      replace HT := Lib.hid (HT.out.fresh (below_drewN (Below.refl _ _) q))
      clear HL HRW
      (refine hK.out _ _ ?_ (fun hHeld => ?_))
      · exact HT.out.cells
      clear hK K
      generalize wc.drewN q = wn at *
      obtain ⟨wc, rfl⟩ : ∃ x : World, x = wn := ⟨_, rfl⟩
      ((refine takeY 40 (v := ?_) rfl (by kernel_rfl) (by kernel_rfl) (by kernel_rfl) (fun _ _ _ h => h) (by rfl) (by assumption) ?_ ?_; rotate_left; · (intro w hSw; (try dsimp only at hSw); go_simp; (first | done | with_reducible rfl))))
      (try simp only [Act.put, List.setIfInBounds_toArray, List.set_cons_zero, List.set_cons_succ])
      ((refine takeY 41 (v := ?_) rfl (by kernel_rfl) (by kernel_rfl) (by kernel_rfl) (fun _ _ _ h => h) (by rfl) (by assumption) ?_ ?_; rotate_left; · (intro w hSw; (try dsimp only at hSw); go_simp; (first | done | with_reducible rfl))))
      (try simp only [Act.put, List.setIfInBounds_toArray, List.set_cons_zero, List.set_cons_succ])
      (first | (refine takeN 42 rfl (by kernel_rfl) (by kernel_rfl) (by kernel_rfl) (fun _ _ _ h => h) (by rfl) (by assumption) ?_) | (refine takeY 42 (v := ?_) rfl (by kernel_rfl) (by kernel_rfl) (by kernel_rfl) (fun _ _ _ h => h) (by rfl) (by assumption) ?_ ?_; rotate_left; · (intro w hSw; (try dsimp only at hSw); go_simp; (first | done | with_reducible rfl))))
      (try simp only [Act.put, List.setIfInBounds_toArray, List.set_cons_zero, List.set_cons_succ])
      (first | (refine takeN 43 rfl (by kernel_rfl) (by kernel_rfl) (by kernel_rfl) (fun _ _ _ h => h) (by rfl) (by assumption) ?_) | (refine takeY 43 (v := ?_) rfl (by kernel_rfl) (by kernel_rfl) (by kernel_rfl) (fun _ _ _ h => h) (by rfl) (by assumption) ?_ ?_; rotate_left; · (intro w hSw; (try dsimp only at hSw); go_simp; (first | done | with_reducible rfl))))
      (try simp only [Act.put, List.setIfInBounds_toArray, List.set_cons_zero, List.set_cons_succ])
      refine stepH 44 rfl (by kernel_rfl) (by rfl) (fun K hK => ?_)
      go_simp
      refine (ldrop HT.out.mp 5 wf5 pa ).mono ?_; rintro e wn ⟨rfl, hto⟩
      rw [m5]
      obtain ⟨Bn, ht⟩ := HT.out.to hto
      replace HT := Lib.hid (show Td w wn 8 u5 Bn ga gb from ht)
      clear hto ht
      (refine hK.out _ _ ?_ (fun hHeld => ?_))
      · exact HT.out.cells
      clear hK K
      obtain ⟨wc, rfl⟩ : ∃ x : World, x = wn := ⟨_, rfl⟩
      (first | (refine takeN 45 rfl (by kernel_rfl) (by kernel_rfl) (by kernel_rfl) (fun _ _ _ h => h) (by rfl) (by assumption) ?_) | (refine takeY 45 (v := ?_) rfl (by kernel_rfl) (by kernel_rfl) (by kernel_rfl) (fun _ _ _ h => h) (by rfl) (by assumption) ?_ ?_; rotate_left; · (intro w hSw; (try dsimp only at hSw); go_simp; (first | done | with_reducible rfl))))
      (try simp only [Act.put, List.setIfInBounds_toArray, List.set_cons_zero, List.set_cons_succ])
      ((refine takeY 46 (v := ?_) rfl (by kernel_rfl) (by kernel_rfl) (by kernel_rfl) (fun _ _ _ h => h) (by rfl) (by assumption) ?_ ?_; rotate_left; · (intro w hSw; (try dsimp only at hSw); go_simp; (first | done | with_reducible rfl))))
      (try simp only [Act.put, List.setIfInBounds_toArray, List.set_cons_zero, List.set_cons_succ])
      ((refine takeY 47 (v := ?_) rfl (by kernel_rfl) (by kernel_rfl) (by kernel_rfl) (fun _ _ _ h => h) (by rfl) (by assumption) ?_ ?_; rotate_left; · (intro w hSw; (try dsimp only at hSw); go_simp; (first | done | with_reducible rfl))))
      (try simp only [Act.put, List.setIfInBounds_toArray, List.set_cons_zero, List.set_cons_succ])
      (first | (refine takeN 48 rfl (by kernel_rfl) (by kernel_rfl) (by kernel_rfl) (fun _ _ _ h => h) (by rfl) (by assumption) ?_) | (refine takeY 48 (v := ?_) rfl (by kernel_rfl) (by kernel_rfl) (by kernel_rfl) (fun _ _ _ h => h) (by rfl) (by assumption) ?_ ?_; rotate_left; · (intro w hSw; (try dsimp only at hSw); go_simp; (first | done | with_reducible rfl))))
      (try simp only [Act.put, List.setIfInBounds_toArray, List.set_cons_zero, List.set_cons_succ])
      (first | (refine takeN 49 rfl (by kernel_rfl) (by kernel_rfl) (by kernel_rfl) (fun _ _ _ h => h) (by rfl) (by assumption) ?_) | (refine takeY 49 (v := ?_) rfl (by kernel_rfl) (by kernel_rfl) (by kernel_rfl) (fun _ _ _ h => h) (by rfl) (by assumption) ?_ ?_; rotate_left; · (intro w hSw; (try dsimp only at hSw); go_simp; (first | done | with_reducible rfl))))
      (try simp only [Act.put, List.setIfInBounds_toArray, List.set_cons_zero, List.set_cons_succ])
      refine stepH 50 rfl (by kernel_rfl) (by rfl) (fun K hK => ?_)
      go_simp
      refine (ldrop HT.out.mp 5 wf5 pa ).mono ?_; rintro e wn ⟨rfl, hto⟩
      rw [m6]
      obtain ⟨Bn, ht⟩ := HT.out.to hto
      replace HT := Lib.hid (show Td w wn 8 (dropU u5 5 pa) Bn ga gb from ht)
      clear hto ht
      (refine hK.out _ _ ?_ (fun hHeld => ?_))
      · exact HT.out.cells
      clear hK K
      obtain ⟨wc, rfl⟩ : ∃ x : World, x = wn := ⟨_, rfl⟩
      (first | (refine takeN 51 rfl (by kernel_rfl) (by kernel_rfl) (by kernel_rfl) (fun _ _ _ h => h) (by rfl) (by assumption) ?_) | (refine takeY 51 (v := ?_) rfl (by kernel_rfl) (by kernel_rfl) (by kernel_rfl) (fun _ _ _ h => h) (by rfl) (by assumption) ?_ ?_; rotate_left; · (intro w hSw; (try dsimp only at hSw); go_simp; (first | done | with_reducible rfl))))
      (try simp only [Act.put, List.setIfInBounds_toArray, List.set_cons_zero, List.set_cons_succ])
      ((refine takeY 52 (v := ?_) rfl (by kernel_rfl) (by kernel_rfl) (by kernel_rfl) (fun _ _ _ h => h) (by rfl) (by assumption) ?_ ?_; rotate_left; · (intro w hSw; (try dsimp only at hSw); go_simp; (first | done | with_reducible rfl))))
      (try simp only [Act.put, List.setIfInBounds_toArray, List.set_cons_zero, List.set_cons_succ])
      ((refine takeY 53 (v := ?_) rfl (by kernel_rfl) (by kernel_rfl) (by kernel_rfl) (fun _ _ _ h => h) (by rfl) (by assumption) ?_ ?_; rotate_left; · (intro w hSw; (try dsimp only at hSw); go_simp; (first | done | with_reducible rfl))))
      (try simp only [Act.put, List.setIfInBounds_toArray, List.set_cons_zero])
      refine wpAnyH_done (by kernel_rfl) ?_ _
      go_wp2
      go_ret
      exact ⟨rfl, HT.out.be⟩
    · go_simp
      (refine hK.out _ _ ?_ (fun hHeld => ?_))
      · exact (HT.out.fresh ((Below.refl _ _).alloc (Nat.le_refl _) _)).cells
      clear hK K
      have HRW := Lib.hid (row_five wc wc.heap.size (Nat.le_refl _))
      replace HT := Lib.hid (HT.out.fresh ((Below.refl _ _).alloc (Nat.le_refl _) (.cells #[.int .i64 5] 3)))
      generalize hwn : wc.alloc (.cells #[.int .i64 5] 3) = wn at *
      clear hwn
      generalize wc.heap.size = gr at *
      obtain ⟨wc, rfl⟩ : ∃ x : World, x = wn := ⟨_, rfl⟩
      refine stepH 37 rfl (by kernel_rfl) (by rfl) (fun K hK => ?_)
      go_simp
      refine (lframes HT.out.mp (by decide)).mono ?_; rintro e wn ⟨v, ts, rfl, hp, hr, hb⟩
      obtain rfl := hp.unique u4_frames
      replace HRW := Lib.hid (own_below HRW.out hb)
      have HL := Lib.hid hr
      replace HT := Lib.hid (HT.out.fresh hb)
      clear hp hr hb
      (refine hK.out _ _ ?_ (fun hHeld => ?_))
      · exact HT.out.cells
      clear hK K
      obtain ⟨wc, rfl⟩ : ∃ x : World, x = wn := ⟨_, rfl⟩
      refine stepH 39 rfl (by kernel_rfl) (by rfl) (fun K hK => ?_)
      go_simp
      refine (pints HL.out HRW.out (by decide)).mono ?_; rintro e wn ⟨rfl, q, rfl⟩
      rw [show decide ([(5 : Int)] = [5]) = true from by simp]
      replace HT := Lib.hid (HT.out.fresh (below_drewN (Below.refl _ _) q))
      clear HL HRW
      (refine hK.out _ _ ?_ (fun hHeld => ?_))
      · exact HT.out.cells
      clear hK K
      generalize wc.drewN q = wn at *
      obtain ⟨wc, rfl⟩ : ∃ x : World, x = wn := ⟨_, rfl⟩
      ((refine takeY 40 (v := ?_) rfl (by kernel_rfl) (by kernel_rfl) (by kernel_rfl) (fun _ _ _ h => h) (by rfl) (by assumption) ?_ ?_; rotate_left; · (intro w hSw; (try dsimp only at hSw); go_simp; (first | done | with_reducible rfl))))
      (try simp only [Act.put, List.setIfInBounds_toArray, List.set_cons_zero, List.set_cons_succ])
      ((refine takeY 41 (v := ?_) rfl (by kernel_rfl) (by kernel_rfl) (by kernel_rfl) (fun _ _ _ h => h) (by rfl) (by assumption) ?_ ?_; rotate_left; · (intro w hSw; (try dsimp only at hSw); go_simp; (first | done | with_reducible rfl))))
      (try simp only [Act.put, List.setIfInBounds_toArray, List.set_cons_zero, List.set_cons_succ])
      (first | (refine takeN 42 rfl (by kernel_rfl) (by kernel_rfl) (by kernel_rfl) (fun _ _ _ h => h) (by rfl) (by assumption) ?_) | (refine takeY 42 (v := ?_) rfl (by kernel_rfl) (by kernel_rfl) (by kernel_rfl) (fun _ _ _ h => h) (by rfl) (by assumption) ?_ ?_; rotate_left; · (intro w hSw; (try dsimp only at hSw); go_simp; (first | done | with_reducible rfl))))
      (try simp only [Act.put, List.setIfInBounds_toArray, List.set_cons_zero, List.set_cons_succ])
      (first | (refine takeN 43 rfl (by kernel_rfl) (by kernel_rfl) (by kernel_rfl) (fun _ _ _ h => h) (by rfl) (by assumption) ?_) | (refine takeY 43 (v := ?_) rfl (by kernel_rfl) (by kernel_rfl) (by kernel_rfl) (fun _ _ _ h => h) (by rfl) (by assumption) ?_ ?_; rotate_left; · (intro w hSw; (try dsimp only at hSw); go_simp; (first | done | with_reducible rfl))))
      (try simp only [Act.put, List.setIfInBounds_toArray, List.set_cons_zero, List.set_cons_succ])
      refine stepH 44 rfl (by kernel_rfl) (by rfl) (fun K hK => ?_)
      go_simp
      refine (ldrop HT.out.mp 5 wf5 pa ).mono ?_; rintro e wn ⟨rfl, hto⟩
      rw [m5]
      obtain ⟨Bn, ht⟩ := HT.out.to hto
      replace HT := Lib.hid (show Td w wn 8 u5 Bn ga gb from ht)
      clear hto ht
      (refine hK.out _ _ ?_ (fun hHeld => ?_))
      · exact HT.out.cells
      clear hK K
      obtain ⟨wc, rfl⟩ : ∃ x : World, x = wn := ⟨_, rfl⟩
      (first | (refine takeN 45 rfl (by kernel_rfl) (by kernel_rfl) (by kernel_rfl) (fun _ _ _ h => h) (by rfl) (by assumption) ?_) | (refine takeY 45 (v := ?_) rfl (by kernel_rfl) (by kernel_rfl) (by kernel_rfl) (fun _ _ _ h => h) (by rfl) (by assumption) ?_ ?_; rotate_left; · (intro w hSw; (try dsimp only at hSw); go_simp; (first | done | with_reducible rfl))))
      (try simp only [Act.put, List.setIfInBounds_toArray, List.set_cons_zero, List.set_cons_succ])
      ((refine takeY 46 (v := ?_) rfl (by kernel_rfl) (by kernel_rfl) (by kernel_rfl) (fun _ _ _ h => h) (by rfl) (by assumption) ?_ ?_; rotate_left; · (intro w hSw; (try dsimp only at hSw); go_simp; (first | done | with_reducible rfl))))
      (try simp only [Act.put, List.setIfInBounds_toArray, List.set_cons_zero, List.set_cons_succ])
      ((refine takeY 47 (v := ?_) rfl (by kernel_rfl) (by kernel_rfl) (by kernel_rfl) (fun _ _ _ h => h) (by rfl) (by assumption) ?_ ?_; rotate_left; · (intro w hSw; (try dsimp only at hSw); go_simp; (first | done | with_reducible rfl))))
      (try simp only [Act.put, List.setIfInBounds_toArray, List.set_cons_zero, List.set_cons_succ])
      (first | (refine takeN 48 rfl (by kernel_rfl) (by kernel_rfl) (by kernel_rfl) (fun _ _ _ h => h) (by rfl) (by assumption) ?_) | (refine takeY 48 (v := ?_) rfl (by kernel_rfl) (by kernel_rfl) (by kernel_rfl) (fun _ _ _ h => h) (by rfl) (by assumption) ?_ ?_; rotate_left; · (intro w hSw; (try dsimp only at hSw); go_simp; (first | done | with_reducible rfl))))
      (try simp only [Act.put, List.setIfInBounds_toArray, List.set_cons_zero, List.set_cons_succ])
      (first | (refine takeN 49 rfl (by kernel_rfl) (by kernel_rfl) (by kernel_rfl) (fun _ _ _ h => h) (by rfl) (by assumption) ?_) | (refine takeY 49 (v := ?_) rfl (by kernel_rfl) (by kernel_rfl) (by kernel_rfl) (fun _ _ _ h => h) (by rfl) (by assumption) ?_ ?_; rotate_left; · (intro w hSw; (try dsimp only at hSw); go_simp; (first | done | with_reducible rfl))))
      (try simp only [Act.put, List.setIfInBounds_toArray, List.set_cons_zero, List.set_cons_succ])
      refine stepH 50 rfl (by kernel_rfl) (by rfl) (fun K hK => ?_)
      go_simp
      refine (ldrop HT.out.mp 5 wf5 pa ).mono ?_; rintro e wn ⟨rfl, hto⟩
      rw [m6]
      obtain ⟨Bn, ht⟩ := HT.out.to hto
      replace HT := Lib.hid (show Td w wn 8 (dropU u5 5 pa) Bn ga gb from ht)
      clear hto ht
      (refine hK.out _ _ ?_ (fun hHeld => ?_))
      · exact HT.out.cells
      clear hK K
      obtain ⟨wc, rfl⟩ : ∃ x : World, x = wn := ⟨_, rfl⟩
      (first | (refine takeN 51 rfl (by kernel_rfl) (by kernel_rfl) (by kernel_rfl) (fun _ _ _ h => h) (by rfl) (by assumption) ?_) | (refine takeY 51 (v := ?_) rfl (by kernel_rfl) (by kernel_rfl) (by kernel_rfl) (fun _ _ _ h => h) (by rfl) (by assumption) ?_ ?_; rotate_left; · (intro w hSw; (try dsimp only at hSw); go_simp; (first | done | with_reducible rfl))))
      (try simp only [Act.put, List.setIfInBounds_toArray, List.set_cons_zero, List.set_cons_succ])
      ((refine takeY 52 (v := ?_) rfl (by kernel_rfl) (by kernel_rfl) (by kernel_rfl) (fun _ _ _ h => h) (by rfl) (by assumption) ?_ ?_; rotate_left; · (intro w hSw; (try dsimp only at hSw); go_simp; (first | done | with_reducible rfl))))
      (try simp only [Act.put, List.setIfInBounds_toArray, List.set_cons_zero, List.set_cons_succ])
      ((refine takeY 53 (v := ?_) rfl (by kernel_rfl) (by kernel_rfl) (by kernel_rfl) (fun _ _ _ h => h) (by rfl) (by assumption) ?_ ?_; rotate_left; · (intro w hSw; (try dsimp only at hSw); go_simp; (first | done | with_reducible rfl))))
      (try simp only [Act.put, List.setIfInBounds_toArray, List.set_cons_zero])
      refine wpAnyH_done (by kernel_rfl) ?_ _
      go_wp2
      go_ret
      exact ⟨rfl, HT.out.be⟩
  · go_simp
    (refine hK.out _ _ ?_ (fun hHeld => ?_))
    · exact (HT.out.fresh ((Below.refl _ _).alloc (Nat.le_refl _) _)).cells
    clear hK K
    have HRW := Lib.hid (row_two wc wc.heap.size (Nat.le_refl _))
    replace HT := Lib.hid (HT.out.fresh ((Below.refl _ _).alloc (Nat.le_refl _) (.cells #[.int .i64 1, .int .u64 9, .int .i64 2, .int .u64 7] 31)))
    generalize hwn : wc.alloc (.cells #[.int .i64 1, .int .u64 9, .int .i64 2, .int .u64 7] 31) = wn at *
    clear hwn
    generalize wc.heap.size = gr at *
    obtain ⟨wc, rfl⟩ : ∃ x : World, x = wn := ⟨_, rfl⟩
    refine stepH 24 rfl (by kernel_rfl) (by rfl) (fun K hK => ?_)
    go_simp
    refine (llist HT.out.mp (by decide) 5 wf5).mono ?_; rintro e wn ⟨v, ts, rfl, hp, hr, hb⟩
    obtain rfl := hp.unique u4_places
    replace HRW := Lib.hid (own_below HRW.out hb)
    have HL := Lib.hid hr
    replace HT := Lib.hid (HT.out.fresh hb)
    clear hp hr hb
    (refine hK.out _ _ ?_ (fun hHeld => ?_))
    · exact HT.out.cells
    clear hK K
    obtain ⟨wc, rfl⟩ : ∃ x : World, x = wn := ⟨_, rfl⟩
    refine stepH 28 rfl (by kernel_rfl) (by rfl) (fun K hK => ?_)
    go_simp
    refine (psame HL.out HRW.out (by decide)).mono ?_; rintro e wn ⟨rfl, q, rfl⟩
    rw [show decide ([pb, pa] = [pb, pa]) = true from by simp]
    replace HT := Lib.hid (HT.out.fresh (below_drewN (Below.refl _ _) q))
    clear HL HRW
    (refine hK.out _ _ ?_ (fun hHeld => ?_))
    · exact HT.out.cells
    clear hK K
    generalize wc.drewN q = wn at *
    obtain ⟨wc, rfl⟩ : ∃ x : World, x = wn := ⟨_, rfl⟩
    ((refine takeY 29 (v := ?_) rfl (by kernel_rfl) (by kernel_rfl) (by kernel_rfl) (fun _ _ _ h => h) (by rfl) (by assumption) ?_ ?_; rotate_left; · (intro w hSw; (try dsimp only at hSw); go_simp; (first | done | with_reducible rfl))))
    (try simp only [Act.put, List.setIfInBounds_toArray, List.set_cons_zero, List.set_cons_succ])
    ((refine takeY 30 (v := ?_) rfl (by kernel_rfl) (by kernel_rfl) (by kernel_rfl) (fun _ _ _ h => h) (by rfl) (by assumption) ?_ ?_; rotate_left; · (intro w hSw; (try dsimp only at hSw); go_simp; (first | done | with_reducible rfl))))
    (try simp only [Act.put, List.setIfInBounds_toArray, List.set_cons_zero, List.set_cons_succ])
    (first | (refine takeN 31 rfl (by kernel_rfl) (by kernel_rfl) (by kernel_rfl) (fun _ _ _ h => h) (by rfl) (by assumption) ?_) | (refine takeY 31 (v := ?_) rfl (by kernel_rfl) (by kernel_rfl) (by kernel_rfl) (fun _ _ _ h => h) (by rfl) (by assumption) ?_ ?_; rotate_left; · (intro w hSw; (try dsimp only at hSw); go_simp; (first | done | with_reducible rfl))))
    (try simp only [Act.put, List.setIfInBounds_toArray, List.set_cons_zero, List.set_cons_succ])
    (first | (refine takeN 32 rfl (by kernel_rfl) (by kernel_rfl) (by kernel_rfl) (fun _ _ _ h => h) (by rfl) (by assumption) ?_) | (refine takeY 32 (v := ?_) rfl (by kernel_rfl) (by kernel_rfl) (by kernel_rfl) (fun _ _ _ h => h) (by rfl) (by assumption) ?_ ?_; rotate_left; · (intro w hSw; (try dsimp only at hSw); go_simp; (first | done | with_reducible rfl))))
    (try simp only [Act.put, List.setIfInBounds_toArray, List.set_cons_zero, List.set_cons_succ])
    refine stepH 33 rfl (by kernel_rfl) (by rfl) (fun K hK => ?_)
    go_simp
    refine (lhas HT.out.mp 5 wf5 pa).mono ?_; rintro e wn ⟨rfl, hb⟩
    rw [m7]
    replace HT := Lib.hid (HT.out.fresh hb)
    clear hb
    (refine hK.out _ _ ?_ (fun hHeld => ?_))
    · exact HT.out.cells
    clear hK K
    obtain ⟨wc, rfl⟩ : ∃ x : World, x = wn := ⟨_, rfl⟩
    ((refine takeY 34 (v := ?_) rfl (by kernel_rfl) (by kernel_rfl) (by kernel_rfl) (fun _ _ _ h => h) (by rfl) (by assumption) ?_ ?_; rotate_left; · (intro w hSw; (try dsimp only at hSw); go_simp; (first | done | with_reducible rfl))))
    (try simp only [Act.put, List.setIfInBounds_toArray, List.set_cons_zero, List.set_cons_succ])
    ((refine takeY 35 (v := ?_) rfl (by kernel_rfl) (by kernel_rfl) (by kernel_rfl) (fun _ _ _ h => h) (by rfl) (by assumption) ?_ ?_; rotate_left; · (intro w hSw; (try dsimp only at hSw); go_simp; (first | done | with_reducible rfl))))
    (try simp only [Act.put, List.setIfInBounds_toArray, List.set_cons_zero, List.set_cons_succ])
    (first | (refine takeN 36 rfl (by kernel_rfl) (by kernel_rfl) (by kernel_rfl) (fun _ _ _ h => h) (by rfl) (by assumption) ?_) | (refine takeY 36 (v := ?_) rfl (by kernel_rfl) (by kernel_rfl) (by kernel_rfl) (fun _ _ _ h => h) (by rfl) (by assumption) ?_ ?_; rotate_left; · (intro w hSw; (try dsimp only at hSw); go_simp; (first | done | with_reducible rfl))))
    (try simp only [Act.put, List.setIfInBounds_toArray, List.set_cons_zero, List.set_cons_succ])
    refine wpAnyH_ready (rs := [37, 38]) (by kernel_rfl) (by simp) ?_
    refine consH 37 rfl (by rfl) (fun K hK => ?_) (consH 38 rfl (by rfl) (fun K hK => ?_) (AllReadyH.nil))
    · go_simp
      refine (lframes HT.out.mp (by decide)).mono ?_; rintro e wn ⟨v, ts, rfl, hp, hr, hb⟩
      obtain rfl := hp.unique u4_frames
      have HL := Lib.hid hr
      replace HT := Lib.hid (HT.out.fresh hb)
      clear hp hr hb
      (refine hK.out _ _ ?_ (fun hHeld => ?_))
      · exact HT.out.cells
      clear hK K
      obtain ⟨wc, rfl⟩ : ∃ x : World, x = wn := ⟨_, rfl⟩
      refine stepH 38 rfl (by kernel_rfl) (by rfl) (fun K hK => ?_)
      go_simp
      (refine hK.out _ _ ?_ (fun hHeld => ?_))
      · exact (HT.out.fresh ((Below.refl _ _).alloc (Nat.le_refl _) _)).cells
      clear hK K
      have HRW := Lib.hid (row_five wc wc.heap.size (Nat.le_refl _))
      replace HL := Lib.hid (own_below HL.out ((Below.refl _ _).alloc (Nat.le_refl _) (.cells #[.int .i64 5] 3)))
      replace HT := Lib.hid (HT.out.fresh ((Below.refl _ _).alloc (Nat.le_refl _) (.cells #[.int .i64 5] 3)))
      generalize hwn : wc.alloc (.cells #[.int .i64 5] 3) = wn at *
      clear hwn
      generalize wc.heap.size = gr at *
      obtain ⟨wc, rfl⟩ : ∃ x : World, x = wn := ⟨_, rfl⟩
      refine stepH 39 rfl (by kernel_rfl) (by rfl) (fun K hK => ?_)
      go_simp
      refine (pints HL.out HRW.out (by decide)).mono ?_; rintro e wn ⟨rfl, q, rfl⟩
      rw [show decide ([(5 : Int)] = [5]) = true from by simp]
      replace HT := Lib.hid (HT.out.fresh (below_drewN (Below.refl _ _) q))
      clear HL HRW
      (refine hK.out _ _ ?_ (fun hHeld => ?_))
      · exact HT.out.cells
      clear hK K
      generalize wc.drewN q = wn at *
      obtain ⟨wc, rfl⟩ : ∃ x : World, x = wn := ⟨_, rfl⟩
      ((refine takeY 40 (v := ?_) rfl (by kernel_rfl) (by kernel_rfl) (by kernel_rfl) (fun _ _ _ h => h) (by rfl) (by assumption) ?_ ?_; rotate_left; · (intro w hSw; (try dsimp only at hSw); go_simp; (first | done | with_reducible rfl))))
      (try simp only [Act.put, List.setIfInBounds_toArray, List.set_cons_zero, List.set_cons_succ])
      ((refine takeY 41 (v := ?_) rfl (by kernel_rfl) (by kernel_rfl) (by kernel_rfl) (fun _ _ _ h => h) (by rfl) (by assumption) ?_ ?_; rotate_left; · (intro w hSw; (try dsimp only at hSw); go_simp; (first | done | with_reducible rfl))))
      (try simp only [Act.put, List.setIfInBounds_toArray, List.set_cons_zero, List.set_cons_succ])
      (first | (refine takeN 42 rfl (by kernel_rfl) (by kernel_rfl) (by kernel_rfl) (fun _ _ _ h => h) (by rfl) (by assumption) ?_) | (refine takeY 42 (v := ?_) rfl (by kernel_rfl) (by kernel_rfl) (by kernel_rfl) (fun _ _ _ h => h) (by rfl) (by assumption) ?_ ?_; rotate_left; · (intro w hSw; (try dsimp only at hSw); go_simp; (first | done | with_reducible rfl))))
      (try simp only [Act.put, List.setIfInBounds_toArray, List.set_cons_zero, List.set_cons_succ])
      (first | (refine takeN 43 rfl (by kernel_rfl) (by kernel_rfl) (by kernel_rfl) (fun _ _ _ h => h) (by rfl) (by assumption) ?_) | (refine takeY 43 (v := ?_) rfl (by kernel_rfl) (by kernel_rfl) (by kernel_rfl) (fun _ _ _ h => h) (by rfl) (by assumption) ?_ ?_; rotate_left; · (intro w hSw; (try dsimp only at hSw); go_simp; (first | done | with_reducible rfl))))
      (try simp only [Act.put, List.setIfInBounds_toArray, List.set_cons_zero, List.set_cons_succ])
      refine stepH 44 rfl (by kernel_rfl) (by rfl) (fun K hK => ?_)
      go_simp
      refine (ldrop HT.out.mp 5 wf5 pa ).mono ?_; rintro e wn ⟨rfl, hto⟩
      rw [m5]
      obtain ⟨Bn, ht⟩ := HT.out.to hto
      replace HT := Lib.hid (show Td w wn 8 u5 Bn ga gb from ht)
      clear hto ht
      (refine hK.out _ _ ?_ (fun hHeld => ?_))
      · exact HT.out.cells
      clear hK K
      obtain ⟨wc, rfl⟩ : ∃ x : World, x = wn := ⟨_, rfl⟩
      (first | (refine takeN 45 rfl (by kernel_rfl) (by kernel_rfl) (by kernel_rfl) (fun _ _ _ h => h) (by rfl) (by assumption) ?_) | (refine takeY 45 (v := ?_) rfl (by kernel_rfl) (by kernel_rfl) (by kernel_rfl) (fun _ _ _ h => h) (by rfl) (by assumption) ?_ ?_; rotate_left; · (intro w hSw; (try dsimp only at hSw); go_simp; (first | done | with_reducible rfl))))
      (try simp only [Act.put, List.setIfInBounds_toArray, List.set_cons_zero, List.set_cons_succ])
      ((refine takeY 46 (v := ?_) rfl (by kernel_rfl) (by kernel_rfl) (by kernel_rfl) (fun _ _ _ h => h) (by rfl) (by assumption) ?_ ?_; rotate_left; · (intro w hSw; (try dsimp only at hSw); go_simp; (first | done | with_reducible rfl))))
      (try simp only [Act.put, List.setIfInBounds_toArray, List.set_cons_zero, List.set_cons_succ])
      ((refine takeY 47 (v := ?_) rfl (by kernel_rfl) (by kernel_rfl) (by kernel_rfl) (fun _ _ _ h => h) (by rfl) (by assumption) ?_ ?_; rotate_left; · (intro w hSw; (try dsimp only at hSw); go_simp; (first | done | with_reducible rfl))))
      (try simp only [Act.put, List.setIfInBounds_toArray, List.set_cons_zero, List.set_cons_succ])
      (first | (refine takeN 48 rfl (by kernel_rfl) (by kernel_rfl) (by kernel_rfl) (fun _ _ _ h => h) (by rfl) (by assumption) ?_) | (refine takeY 48 (v := ?_) rfl (by kernel_rfl) (by kernel_rfl) (by kernel_rfl) (fun _ _ _ h => h) (by rfl) (by assumption) ?_ ?_; rotate_left; · (intro w hSw; (try dsimp only at hSw); go_simp; (first | done | with_reducible rfl))))
      (try simp only [Act.put, List.setIfInBounds_toArray, List.set_cons_zero, List.set_cons_succ])
      (first | (refine takeN 49 rfl (by kernel_rfl) (by kernel_rfl) (by kernel_rfl) (fun _ _ _ h => h) (by rfl) (by assumption) ?_) | (refine takeY 49 (v := ?_) rfl (by kernel_rfl) (by kernel_rfl) (by kernel_rfl) (fun _ _ _ h => h) (by rfl) (by assumption) ?_ ?_; rotate_left; · (intro w hSw; (try dsimp only at hSw); go_simp; (first | done | with_reducible rfl))))
      (try simp only [Act.put, List.setIfInBounds_toArray, List.set_cons_zero, List.set_cons_succ])
      refine stepH 50 rfl (by kernel_rfl) (by rfl) (fun K hK => ?_)
      go_simp
      refine (ldrop HT.out.mp 5 wf5 pa ).mono ?_; rintro e wn ⟨rfl, hto⟩
      rw [m6]
      obtain ⟨Bn, ht⟩ := HT.out.to hto
      replace HT := Lib.hid (show Td w wn 8 (dropU u5 5 pa) Bn ga gb from ht)
      clear hto ht
      (refine hK.out _ _ ?_ (fun hHeld => ?_))
      · exact HT.out.cells
      clear hK K
      obtain ⟨wc, rfl⟩ : ∃ x : World, x = wn := ⟨_, rfl⟩
      (first | (refine takeN 51 rfl (by kernel_rfl) (by kernel_rfl) (by kernel_rfl) (fun _ _ _ h => h) (by rfl) (by assumption) ?_) | (refine takeY 51 (v := ?_) rfl (by kernel_rfl) (by kernel_rfl) (by kernel_rfl) (fun _ _ _ h => h) (by rfl) (by assumption) ?_ ?_; rotate_left; · (intro w hSw; (try dsimp only at hSw); go_simp; (first | done | with_reducible rfl))))
      (try simp only [Act.put, List.setIfInBounds_toArray, List.set_cons_zero, List.set_cons_succ])
      ((refine takeY 52 (v := ?_) rfl (by kernel_rfl) (by kernel_rfl) (by kernel_rfl) (fun _ _ _ h => h) (by rfl) (by assumption) ?_ ?_; rotate_left; · (intro w hSw; (try dsimp only at hSw); go_simp; (first | done | with_reducible rfl))))
      (try simp only [Act.put, List.setIfInBounds_toArray, List.set_cons_zero, List.set_cons_succ])
      ((refine takeY 53 (v := ?_) rfl (by kernel_rfl) (by kernel_rfl) (by kernel_rfl) (fun _ _ _ h => h) (by rfl) (by assumption) ?_ ?_; rotate_left; · (intro w hSw; (try dsimp only at hSw); go_simp; (first | done | with_reducible rfl))))
      (try simp only [Act.put, List.setIfInBounds_toArray, List.set_cons_zero])
      refine wpAnyH_done (by kernel_rfl) ?_ _
      go_wp2
      go_ret
      exact ⟨rfl, HT.out.be⟩
    · go_simp
      (refine hK.out _ _ ?_ (fun hHeld => ?_))
      · exact (HT.out.fresh ((Below.refl _ _).alloc (Nat.le_refl _) _)).cells
      clear hK K
      have HRW := Lib.hid (row_five wc wc.heap.size (Nat.le_refl _))
      replace HT := Lib.hid (HT.out.fresh ((Below.refl _ _).alloc (Nat.le_refl _) (.cells #[.int .i64 5] 3)))
      generalize hwn : wc.alloc (.cells #[.int .i64 5] 3) = wn at *
      clear hwn
      generalize wc.heap.size = gr at *
      obtain ⟨wc, rfl⟩ : ∃ x : World, x = wn := ⟨_, rfl⟩
      refine stepH 37 rfl (by kernel_rfl) (by rfl) (fun K hK => ?_)
      go_simp
      refine (lframes HT.out.mp (by decide)).mono ?_; rintro e wn ⟨v, ts, rfl, hp, hr, hb⟩
      obtain rfl := hp.unique u4_frames
      replace HRW := Lib.hid (own_below HRW.out hb)
      have HL := Lib.hid hr
      replace HT := Lib.hid (HT.out.fresh hb)
      clear hp hr hb
      (refine hK.out _ _ ?_ (fun hHeld => ?_))
      · exact HT.out.cells
      clear hK K
      obtain ⟨wc, rfl⟩ : ∃ x : World, x = wn := ⟨_, rfl⟩
      refine stepH 39 rfl (by kernel_rfl) (by rfl) (fun K hK => ?_)
      go_simp
      refine (pints HL.out HRW.out (by decide)).mono ?_; rintro e wn ⟨rfl, q, rfl⟩
      rw [show decide ([(5 : Int)] = [5]) = true from by simp]
      replace HT := Lib.hid (HT.out.fresh (below_drewN (Below.refl _ _) q))
      clear HL HRW
      (refine hK.out _ _ ?_ (fun hHeld => ?_))
      · exact HT.out.cells
      clear hK K
      generalize wc.drewN q = wn at *
      obtain ⟨wc, rfl⟩ : ∃ x : World, x = wn := ⟨_, rfl⟩
      ((refine takeY 40 (v := ?_) rfl (by kernel_rfl) (by kernel_rfl) (by kernel_rfl) (fun _ _ _ h => h) (by rfl) (by assumption) ?_ ?_; rotate_left; · (intro w hSw; (try dsimp only at hSw); go_simp; (first | done | with_reducible rfl))))
      (try simp only [Act.put, List.setIfInBounds_toArray, List.set_cons_zero, List.set_cons_succ])
      ((refine takeY 41 (v := ?_) rfl (by kernel_rfl) (by kernel_rfl) (by kernel_rfl) (fun _ _ _ h => h) (by rfl) (by assumption) ?_ ?_; rotate_left; · (intro w hSw; (try dsimp only at hSw); go_simp; (first | done | with_reducible rfl))))
      (try simp only [Act.put, List.setIfInBounds_toArray, List.set_cons_zero, List.set_cons_succ])
      (first | (refine takeN 42 rfl (by kernel_rfl) (by kernel_rfl) (by kernel_rfl) (fun _ _ _ h => h) (by rfl) (by assumption) ?_) | (refine takeY 42 (v := ?_) rfl (by kernel_rfl) (by kernel_rfl) (by kernel_rfl) (fun _ _ _ h => h) (by rfl) (by assumption) ?_ ?_; rotate_left; · (intro w hSw; (try dsimp only at hSw); go_simp; (first | done | with_reducible rfl))))
      (try simp only [Act.put, List.setIfInBounds_toArray, List.set_cons_zero, List.set_cons_succ])
      (first | (refine takeN 43 rfl (by kernel_rfl) (by kernel_rfl) (by kernel_rfl) (fun _ _ _ h => h) (by rfl) (by assumption) ?_) | (refine takeY 43 (v := ?_) rfl (by kernel_rfl) (by kernel_rfl) (by kernel_rfl) (fun _ _ _ h => h) (by rfl) (by assumption) ?_ ?_; rotate_left; · (intro w hSw; (try dsimp only at hSw); go_simp; (first | done | with_reducible rfl))))
      (try simp only [Act.put, List.setIfInBounds_toArray, List.set_cons_zero, List.set_cons_succ])
      refine stepH 44 rfl (by kernel_rfl) (by rfl) (fun K hK => ?_)
      go_simp
      refine (ldrop HT.out.mp 5 wf5 pa ).mono ?_; rintro e wn ⟨rfl, hto⟩
      rw [m5]
      obtain ⟨Bn, ht⟩ := HT.out.to hto
      replace HT := Lib.hid (show Td w wn 8 u5 Bn ga gb from ht)
      clear hto ht
      (refine hK.out _ _ ?_ (fun hHeld => ?_))
      · exact HT.out.cells
      clear hK K
      obtain ⟨wc, rfl⟩ : ∃ x : World, x = wn := ⟨_, rfl⟩
      (first | (refine takeN 45 rfl (by kernel_rfl) (by kernel_rfl) (by kernel_rfl) (fun _ _ _ h => h) (by rfl) (by assumption) ?_) | (refine takeY 45 (v := ?_) rfl (by kernel_rfl) (by kernel_rfl) (by kernel_rfl) (fun _ _ _ h => h) (by rfl) (by assumption) ?_ ?_; rotate_left; · (intro w hSw; (try dsimp only at hSw); go_simp; (first | done | with_reducible rfl))))
      (try simp only [Act.put, List.setIfInBounds_toArray, List.set_cons_zero, List.set_cons_succ])
      ((refine takeY 46 (v := ?_) rfl (by kernel_rfl) (by kernel_rfl) (by kernel_rfl) (fun _ _ _ h => h) (by rfl) (by assumption) ?_ ?_; rotate_left; · (intro w hSw; (try dsimp only at hSw); go_simp; (first | done | with_reducible rfl))))
      (try simp only [Act.put, List.setIfInBounds_toArray, List.set_cons_zero, List.set_cons_succ])
      ((refine takeY 47 (v := ?_) rfl (by kernel_rfl) (by kernel_rfl) (by kernel_rfl) (fun _ _ _ h => h) (by rfl) (by assumption) ?_ ?_; rotate_left; · (intro w hSw; (try dsimp only at hSw); go_simp; (first | done | with_reducible rfl))))
      (try simp only [Act.put, List.setIfInBounds_toArray, List.set_cons_zero, List.set_cons_succ])
      (first | (refine takeN 48 rfl (by kernel_rfl) (by kernel_rfl) (by kernel_rfl) (fun _ _ _ h => h) (by rfl) (by assumption) ?_) | (refine takeY 48 (v := ?_) rfl (by kernel_rfl) (by kernel_rfl) (by kernel_rfl) (fun _ _ _ h => h) (by rfl) (by assumption) ?_ ?_; rotate_left; · (intro w hSw; (try dsimp only at hSw); go_simp; (first | done | with_reducible rfl))))
      (try simp only [Act.put, List.setIfInBounds_toArray, List.set_cons_zero, List.set_cons_succ])
      (first | (refine takeN 49 rfl (by kernel_rfl) (by kernel_rfl) (by kernel_rfl) (fun _ _ _ h => h) (by rfl) (by assumption) ?_) | (refine takeY 49 (v := ?_) rfl (by kernel_rfl) (by kernel_rfl) (by kernel_rfl) (fun _ _ _ h => h) (by rfl) (by assumption) ?_ ?_; rotate_left; · (intro w hSw; (try dsimp only at hSw); go_simp; (first | done | with_reducible rfl))))
      (try simp only [Act.put, List.setIfInBounds_toArray, List.set_cons_zero, List.set_cons_succ])
      refine stepH 50 rfl (by kernel_rfl) (by rfl) (fun K hK => ?_)
      go_simp
      refine (ldrop HT.out.mp 5 wf5 pa ).mono ?_; rintro e wn ⟨rfl, hto⟩
      rw [m6]
      obtain ⟨Bn, ht⟩ := HT.out.to hto
      replace HT := Lib.hid (show Td w wn 8 (dropU u5 5 pa) Bn ga gb from ht)
      clear hto ht
      (refine hK.out _ _ ?_ (fun hHeld => ?_))
      · exact HT.out.cells
      clear hK K
      obtain ⟨wc, rfl⟩ : ∃ x : World, x = wn := ⟨_, rfl⟩
      (first | (refine takeN 51 rfl (by kernel_rfl) (by kernel_rfl) (by kernel_rfl) (fun _ _ _ h => h) (by rfl) (by assumption) ?_) | (refine takeY 51 (v := ?_) rfl (by kernel_rfl) (by kernel_rfl) (by kernel_rfl) (fun _ _ _ h => h) (by rfl) (by assumption) ?_ ?_; rotate_left; · (intro w hSw; (try dsimp only at hSw); go_simp; (first | done | with_reducible rfl))))
      (try simp only [Act.put, List.setIfInBounds_toArray, List.set_cons_zero, List.set_cons_succ])
      ((refine takeY 52 (v := ?_) rfl (by kernel_rfl) (by kernel_rfl) (by kernel_rfl) (fun _ _ _ h => h) (by rfl) (by assumption) ?_ ?_; rotate_left; · (intro w hSw; (try dsimp only at hSw); go_simp; (first | done | with_reducible rfl))))
      (try simp only [Act.put, List.setIfInBounds_toArray, List.set_cons_zero, List.set_cons_succ])
      ((refine takeY 53 (v := ?_) rfl (by kernel_rfl) (by kernel_rfl) (by kernel_rfl) (fun _ _ _ h => h) (by rfl) (by assumption) ?_ ?_; rotate_left; · (intro w hSw; (try dsimp only at hSw); go_simp; (first | done | with_reducible rfl))))
      (try simp only [Act.put, List.setIfInBounds_toArray, List.set_cons_zero])
      refine wpAnyH_done (by kernel_rfl) ?_ _
      go_wp2
      go_ret
      exact ⟨rfl, HT.out.be⟩
end Go.Proofs.Ytdnfjpelhiniaaa
