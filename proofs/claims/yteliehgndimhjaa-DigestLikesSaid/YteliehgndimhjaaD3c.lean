/- The walk of the statement DigestLikes: it returns true. -/
import Derived.Test.YteliehgndimhjaaD3c0
namespace Go.Proofs.Yteliehgndimhjaa
open Go.RowKit Flo

set_option maxHeartbeats 4000000 in
set_option maxRecDepth 100000 in
theorem digestLikes_walk (A B : Option Addr) (n m c d : Nat) (xs ys : List Value) (k far v : Int) (w : World) (ha : Reads w w.heap.size 1 A n xs) (hb : Reads w w.heap.size 1 B m ys) (hx : IntsR xs) (hy : BytesR ys) :
    Calls Try.prog 5 #[.slice A n c, .slice B m d, .int .i64 k, .int .i64 far, .int .i64 v] w fun e w' => e = .returned (.bool true) ∧ Below w.heap.size w w' := by
  have HPg := Lib.hid (page_any A B n m c d xs ys w ha hb hx hy)
  clear ha hb hx hy
  obtain ⟨i0, hi0, hz0, hz1, hz2⟩ := info_parts Try.info5
  have hm1 : -256 < k.tmod 256 ∧ k.tmod 256 < 256 := tmod_bd2 k 256 (by decide)
  have hm2 : -200 < far.tmod 200 ∧ far.tmod 200 < 200 := tmod_bd2 far 200 (by decide)
  have hmask : bits .and .i64 v 15 = v % 16 := mask64 v 4 (by omega)
  obtain ⟨kk, hkk⟩ : ∃ kk : Nat, (k.tmod 256 + 256) % 256 = (kk : Int) := ⟨((k.tmod 256 + 256) % 256).toNat, by omega⟩
  obtain ⟨ff, hff⟩ : ∃ ff : Nat, 1 + far.tmod 200 % 200 = (ff : Int) := ⟨(1 + far.tmod 200 % 200).toNat, by omega⟩
  obtain ⟨nn, hnn⟩ : ∃ nn : Nat, 1 + v % 16 = (nn : Int) := ⟨(1 + v % 16).toNat, by omega⟩
  have bk : kk < 256 := by omega
  have bf : 1 ≤ ff ∧ ff ≤ 200 := by omega
  have bn : 1 ≤ nn ∧ nn ≤ 16 := by omega
  have HK := Lib.hid hkk
  have HF := Lib.hid hff
  have HN := Lib.hid hnn
  clear hkk hff hnn
  go_enter Try.func5, Try.ntmps5
  go_wp2_with fail
  refine HPg.out.mono ?_; rintro e w1 ⟨rfl, g0, hg0, hblk0, hb1⟩
  have HB0 := Lib.hid hblk0
  have HL0 := Lib.hid hb1
  clear hblk0 hb1
  go_wp2_with fail
  rw [HF.out, HK.out, HN.out]
  refine wp_append_any _ (.tmp 34) (.tmp 35) _ rfl w1.heap.size 5 i0 _ 1 1 Try.underlying23 hi0 hz0 hz1 hz2 rfl (by omega) (.slice (some ⟨w1.heap.size, 0, none⟩) 0 0) 0 [] rfl (World.ownsRow_made _ _ 0 (Nat.le_refl _) (by decide) rfl)
    (w1.heap.size) (some ⟨w.heap.size, 0, none⟩) 4096 4096 (pc g0).toList rfl (reads_blk (HB0.out.alloc _) HB0.out.lt) (pcl_one g0) (by decide) (by decide) (by simp) ?_
  intro v1 w2 hown1 hg1 hat1
  rw [Nat.zero_add, List.nil_append] at hown1
  obtain ⟨gq, cq, rfl, hq1, hq2⟩ := hown1.form (by decide)
  have HQ := Lib.hid hown1
  have HG1 := Lib.hid hg1
  clear hown1 hg1 hat1
  have hc1 := (page_own HQ.out) (8 * kk + 3) (by omega)
  have hf1 := HQ.out.frozenAt (8 * kk + 3)
  have hc2 := (page_own HQ.out) (8 * (kk + ff) + 3) (by omega)
  have hf2 := HQ.out.frozenAt (8 * (kk + ff) + 3)
  have hQ2 := (HQ.out.stored (8 * kk + 3) (.int .u8 ((0 : Nat) : Int))).1
  rw [pcl_set] at hQ2
  have hQ3 := (hQ2.stored (8 * (kk + ff) + 3) (.int .u8 ((100 : Nat) : Int))).1
  rw [pcl_set] at hQ3
  have hg1 : Bytes (upd (upd g0 (8 * kk + 3) 0) (8 * (kk + ff) + 3) 100) := upd_bytes (upd_bytes hg0 _ _ (by decide)) _ _ (by decide)
  have e1 : upd (upd g0 (8 * kk + 3) 0) (8 * (kk + ff) + 3) 100 (8 * kk + 3) = 0 := by unfold upd; rw [if_neg (by omega), if_pos rfl]
  have e2 : upd (upd g0 (8 * kk + 3) 0) (8 * (kk + ff) + 3) 100 (8 * (kk + ff) + 3) = 100 := by unfold upd; rw [if_pos rfl]
  have hB2 : Below w.heap.size w2 ((w2.setCell ⟨gq, 8 * kk + 3, none⟩ (.int .u8 0)).setCell ⟨gq, 8 * (kk + ff) + 3, none⟩ (.int .u8 100)) :=
    ((Below.refl _ _).setCell (p := ⟨gq, 8 * kk + 3, none⟩) (by have := HL0.out.size; show w.heap.size ≤ gq; omega) _).setCell (p := ⟨gq, 8 * (kk + ff) + 3, none⟩) (by have := HL0.out.size; show w.heap.size ≤ gq; omega) _
  have HQ3 := Lib.hid hQ3
  have HG := Lib.hid hg1
  have E1 := Lib.hid e1
  have E2 := Lib.hid e2
  have HB2 := Lib.hid hB2
  clear hQ2 hQ3 hg1 e1 e2 hB2
  generalize upd (upd g0 (8 * kk + 3) 0) (8 * (kk + ff) + 3) 100 = g1 at *
  have hsz : ((w2.setCell ⟨gq, 8 * kk + 3, none⟩ (.int .u8 ((0 : Nat) : Int))).setCell ⟨gq, 8 * (kk + ff) + 3, none⟩ (.int .u8 ((100 : Nat) : Int))).heap.size = w2.heap.size := by simp
  have HSZ := Lib.hid hsz
  clear hsz
  go_wp2_with fail
  clear hc1 hc2 hf1 hf2
  refine wp_append_any _ (.tmp 49) (.tmp 50) _ rfl w2.heap.size 5 i0 _ 1 1 Try.underlying23 hi0 hz0 hz1 hz2 rfl (by omega) (.slice (some ⟨w2.heap.size, 0, none⟩) 0 0) 0 [] rfl ?c1
    w2.heap.size (some ⟨gq, 0, none⟩) 4096 cq (pc g1).toList rfl ?c2 (pcl_one g1) (by decide) (by decide) ?c3 ?_
  case c1 =>
    have h := World.ownsRow_made (e := 5) (size := 1) (base := w2.heap.size) ((w2.setCell ⟨gq, 8 * kk + 3, none⟩ (.int .u8 ((0 : Nat) : Int))).setCell ⟨gq, 8 * (kk + ff) + 3, none⟩ (.int .u8 ((100 : Nat) : Int))) #[] 0 (by rw [HSZ.out]; exact Nat.le_refl _) (by decide) rfl
    rw [HSZ.out] at h
    exact h
  case c2 =>
    have h := (Reads.of_own HQ3.out)
    rw [HSZ.out] at h
    exact h.alloc (by rw [HSZ.out]; exact Nat.le_refl _) _
  case c3 => simp
  intro v2 w4 hown2 hg2 hat2
  rw [Nat.zero_add, List.nil_append] at hown2
  obtain ⟨gp, cp, rfl, hp1, hp2⟩ := hown2.form (by decide)
  have hQ4 := (HQ3.out.alloc (.cells #[] 5)).kept hg2 (.inr (by simp only [Value.ownBlock]; intro h; injection h; omega))
  have HQ4 := Lib.hid hQ4
  have HP4 := Lib.hid hown2
  have HG2 := Lib.hid hg2
  clear hQ4 hown2 hg2 hat2
  have hc1 := (page_own HQ4.out) (8 * kk + 3) (by omega)
  have hf1 := HQ4.out.frozenAt (8 * kk + 3)
  have hc2 := (page_own HQ4.out) (8 * (kk + ff) + 3) (by omega)
  have hf2 := HQ4.out.frozenAt (8 * (kk + ff) + 3)
  have hsub : ((100 - nn : Nat) : Int) = 100 - (nn : Int) := by omega
  have hQ5 := (HQ4.out.stored (8 * kk + 3) (.int .u8 (nn : Int))).1
  rw [pcl_set] at hQ5
  have hQ6 := (hQ5.stored (8 * (kk + ff) + 3) (.int .u8 ((100 - nn : Nat) : Int))).1
  rw [pcl_set, hsub] at hQ6
  have hP5 := ownsRow_setCell_other (ownsRow_setCell_other HP4.out (a := ⟨gq, 8 * kk + 3, none⟩) (by simp only [Value.ownBlock]; intro h; injection h; omega) (.int .u8 (nn : Int))) (a := ⟨gq, 8 * (kk + ff) + 3, none⟩) (by simp only [Value.ownBlock]; intro h; injection h; omega) (.int .u8 (100 - (nn : Int)))
  have hS := S_two g1 HG.out kk ff nn (by omega) (by omega) (by omega) E1.out E2.out
  have hg2 : Bytes (upd (upd g1 (8 * kk + 3) nn) (8 * (kk + ff) + 3) (100 - nn)) := upd_bytes (upd_bytes HG.out _ _ (by omega)) _ _ (by omega)
  have HO1 := Lib.hid (of_page gp cp g1 _ (page_own hP5) HG.out)
  have hO2 := of_page gq cq _ _ (page_own hQ6) hg2
  rw [hS.1, hS.2] at hO2
  have HO2 := Lib.hid hO2
  clear hO2 hS hg2 hQ5 hQ6 hP5
  have bS := S_bd g1 HG.out 512
  have bd := d_bd ((nn : Int) * 16777216) kk ff 1677721600 (by omega) (by omega)
  have hfar := d_far ((nn : Int) * 16777216) kk ff (by omega)
  generalize dRe ((nn : Int) * 16777216) kk ff = dx at *
  generalize dIm ((nn : Int) * 16777216) kk ff = dy at *
  generalize SRe g1 512 = X at *
  generalize SIm g1 512 = Y at *
  have key : ∃ b1 b2 b3 : Bool, (FloatKind.f64.format.order (F X) (F (X + dx)) == some .eq) = b1 ∧ (FloatKind.f64.format.order (F Y) (F (Y + dy)) == some .eq) = b2 ∧ ((ff : Int) % 4 == 0) = b3 ∧ (b1 && b2) = b3 := by
    refine ⟨_, _, _, rfl, rfl, rfl, ?_⟩
    by_cases h4 : (ff : Int) % 4 = 0
    · obtain ⟨rfl, rfl⟩ := hfar.1 h4
      rw [Int.add_zero, Int.add_zero, ord_self X (by omega), ord_self Y (by omega), h4]; rfl
    · have h5 := hfar.2 h4
      have h6 : ((ff : Int) % 4 == 0) = false := by simpa using h4
      rw [h6]
      by_cases hx : dx = 0
      · rw [eq_no' (n := Y) (u := Y + dy) (by omega) (by omega) (fun h => h5 ⟨hx, by omega⟩)]; simp
      · rw [eq_no' (n := X) (u := X + dx) (by omega) (by omega) (by omega)]; rfl
  obtain ⟨b1, b2, b3, o1, o2, o3, o4⟩ := key
  clear hfar bd bS hsub
  have hB3 : Below w.heap.size w ((w4.setCell ⟨gq, 8 * kk + 3, none⟩ (.int .u8 (nn : Int))).setCell ⟨gq, 8 * (kk + ff) + 3, none⟩ (.int .u8 (100 - (nn : Int)))) := by
    have s0 := HL0.out.size
    have hb1 : Below w.heap.size w w2 := (HL0.out.alloc s0 _).grown HG1.out (by simp; omega) (by simp [Value.ownBlock]; omega)
    have hb2 := hb1.trans HB2.out
    have hb3 : Below w.heap.size w w4 := (hb2.alloc hb2.size _).grown HG2.out (by have := hb2.size; simp at this ⊢; omega) (by have := hb1.size; simp [Value.ownBlock]; omega)
    exact (hb3.setCell (p := ⟨gq, 8 * kk + 3, none⟩) (by show w.heap.size ≤ gq; omega) _).setCell (p := ⟨gq, 8 * (kk + ff) + 3, none⟩) (by show w.heap.size ≤ gq; omega) _
  have HB3 := Lib.hid hB3
  clear hB3
  go_wp2_with fail
  refine HO1.out.mono ?_; rintro e w' ⟨rfl, rfl⟩
  go_wp2_with fail
  refine HO2.out.mono ?_; rintro e w' ⟨rfl, rfl⟩
  go_wp2_with fail
  refine (told_any _).mono ?_; rintro e w6 ⟨rfl, hb6⟩
  have HB6 := Lib.hid hb6
  clear hb6
  cases b1 <;> cases b2 <;> cases b3 <;> first | (exact absurd o4 (by decide)) | skip
  all_goals
    clear o4
    go_wp2
    go_ret
    exact ⟨rfl, HB3.out.trans (HB6.out.mono HB3.out.size)⟩

end Go.Proofs.Yteliehgndimhjaa
