/- Package buddy: cut. -/
import Derived.Test.YtmmjkebhcihjlaaBum
namespace Go.Proofs.Ytmmjkebhcihjlaa
open Go.RowKit

set_option maxRecDepth 100000 in
set_option maxHeartbeats 4000000 in
theorem bcut_no (c base o : Nat) (fi en fr x : Int) (vs : Nat → Value) (R : Nat → List Int) (w : World) (h : BudAt w c base fi en fr vs R) (ho : o < 10) (hs : (R o).Pairwise (· < ·)) (hn : (R o).length ≤ 3000000) (hx : x ∉ R o) :
    Calls Try.prog 22 #[.pointer (some ⟨c, 0, none⟩), .int .i64 x, .int .i64 o] w fun e w' => e = .returned (.bool false) ∧ ∃ q, w' = w.drewN q := by
  have HB := Lib.hid h
  have c0 := h.cr ho
  have CB := Lib.hid (bs_own base 3 (vs o) (R o) x w (h.own o ho) hs (by omega))
  have HX := Lib.hid (show (R o).contains x = false by simpa using hx)
  have hoi : (o : Int) < 10 := by omega
  clear h hs hx
  go_enter Try.func22, Try.ntmps22
  go_wp2_with fail
  refine CB.out.mono ?_
  rintro e w1 ⟨rfl, q, rfl⟩
  rw [HX.out]
  go_wp2
  go_ret
  exact ⟨rfl, q, rfl⟩

set_option maxRecDepth 100000 in
set_option maxHeartbeats 4000000 in
theorem bcut_yes (c base o : Nat) (fi en fr x : Int) (vs : Nat → Value) (R : Nat → List Int) (w : World) (h : BudAt w c base fi en fr vs R) (ho : o < 10) (hs : (R o).Pairwise (· < ·)) (hn : (R o).length ≤ 3000000) (hx : x ∈ R o) :
    Calls Try.prog 22 #[.pointer (some ⟨c, 0, none⟩), .int .i64 x, .int .i64 o] w fun e w' => e = .returned (.bool true) ∧ PutIs w c base fi en fr vs R o (cutL x (R o)) w' := by
  have HB := Lib.hid h
  have c0 := h.cr ho
  have CB := Lib.hid (bs_own base 3 (vs o) (R o) x w (h.own o ho) hs (by omega))
  have HX := Lib.hid (show (R o).contains x = true by simpa using hx)
  have hoi : (o : Int) < 10 := by omega
  have hk : (R o).countP (fun z => decide (z < x)) < (R o).length := by
    rcases Nat.lt_or_ge ((R o).countP (fun z => decide (z < x))) (R o).length with hl | hl
    · exact hl
    · have he := (List.countP_eq_length (p := fun z => decide (z < x)) (l := R o)).1 (Nat.le_antisymm List.countP_le_length hl) x hx
      simp at he
  clear h hs hx
  go_enter Try.func22, Try.ntmps22
  go_wp2_with fail
  refine CB.out.mono ?_
  rintro e w1 ⟨rfl, q, rfl⟩
  rw [HX.out]
  obtain ⟨k, hke⟩ : ∃ k, (R o).countP (fun z => decide (z < x)) = k := ⟨_, rfl⟩
  rw [hke] at hk ⊢
  have HK := Lib.hid hke
  clear hke CB c0 HX
  have HB1 := Lib.hid (HB.out.drewN q)
  have HBW := Lib.hid (below_drewN (Below.refl w.heap.size w) q)
  generalize w.drewN q = w1 at *
  have c0 := HB1.out.cr ho
  obtain ⟨k1, hk1⟩ : ∃ k1, k1 = k + 1 := ⟨_, rfl⟩
  have ek : (k : Int) + 1 = (k1 : Int) := by omega
  have hwk : IntKind.i64.wrap (k1 : Int) = (k1 : Int) := IntWalk.i64_in _ (by omega)
  have HK1 := Lib.hid hk1
  clear hk1
  go_wp2_with fail
  have SK := Lib.hid (show ∀ w', w1.drew.grownBy w' (vs o).ownBlock → w'.cell? ⟨c, 2 + o, none⟩ = some (vs o) ∧ w'.frozen? ⟨c, 2 + o, none⟩ = false from fun w' hg => by
    have hb : Blk w' c 54 (bcells fi en vs fr) := HB1.out.blk.drew.grown hg (fun e => by
      have := ((HB1.out.own o ho).lt c e.symm).1
      have := HB1.out.lo
      omega)
    exact ⟨by rw [hb.cell, bcells_get ho], hb.frozen _⟩)
  refine beginZ (z := 15) (S := (fun w' => w'.cell? ⟨c, 2 + o, none⟩ = some (vs o) ∧ w'.frozen? ⟨c, 2 + o, none⟩ = false)) (by kernel_rfl) ?_ (fun hHeld => ?_)
  · exact SK.out _ (World.grownBy.refl _ _)
  have HBZ := Lib.hid (show BudAt w1.drew c base fi en fr vs R from HB1.out.drewN 1)
  have HBW2 := Lib.hid (show Below w.heap.size w w1.drew from HBW.out.drew)
  generalize w1.drew = w0 at *
  have CD := Lib.hid (del_own base 3 (vs o) (R o) k w0 (HBZ.out.own o ho) hk)
  rw [← HK1.out] at CD
  ((refine takeYZ 0 (by kernel_rfl) (v := ?_) rfl (by kernel_rfl) (by kernel_rfl) (by kernel_rfl) (fun _ _ _ h => h) (by rfl) (by assumption) ?_ ?_; rotate_left; · (intro w hSw; (try dsimp only at hSw); go_simp; (first | done | with_reducible rfl))))
  (try simp only [Act.put, List.setIfInBounds_toArray, List.set_cons_zero, List.set_cons_succ])
  ((refine takeYZ 1 (by kernel_rfl) (v := ?_) rfl (by kernel_rfl) (by kernel_rfl) (by kernel_rfl) (fun _ _ _ h => h) (by rfl) (by assumption) ?_ ?_; rotate_left; · (intro w hSw; (try dsimp only at hSw); go_simp; (first | done | with_reducible rfl))))
  (try simp only [Act.put, List.setIfInBounds_toArray, List.set_cons_zero, List.set_cons_succ])
  ((refine takeYZ 2 (by kernel_rfl) (v := ?_) rfl (by kernel_rfl) (by kernel_rfl) (by kernel_rfl) (fun _ _ _ h => h) (by rfl) (by assumption) ?_ ?_; rotate_left; · (intro w hSw; (try dsimp only at hSw); go_simp; (first | done | with_reducible rfl))))
  (try simp only [Act.put, List.setIfInBounds_toArray, List.set_cons_zero, List.set_cons_succ])
  ((refine takeYZ 3 (by kernel_rfl) (v := ?_) rfl (by kernel_rfl) (by kernel_rfl) (by kernel_rfl) (fun _ _ _ h => h) (by rfl) (by assumption) ?_ ?_; rotate_left; · (intro w hSw; (try dsimp only at hSw); go_simp; (first | done | with_reducible rfl))))
  (try simp only [Act.put, List.setIfInBounds_toArray, List.set_cons_zero, List.set_cons_succ])
  ((refine takeYZ 4 (by kernel_rfl) (v := ?_) rfl (by kernel_rfl) (by kernel_rfl) (by kernel_rfl) (fun _ _ _ h => h) (by rfl) (by assumption) ?_ ?_; rotate_left; · (intro w hSw; (try dsimp only at hSw); go_simp; (first | done | with_reducible rfl))))
  (try simp only [Act.put, List.setIfInBounds_toArray, List.set_cons_zero, List.set_cons_succ])
  ((refine takeYZ 5 (by kernel_rfl) (v := ?_) rfl (by kernel_rfl) (by kernel_rfl) (by kernel_rfl) (fun _ _ _ h => h) (by rfl) (by assumption) ?_ ?_; rotate_left; · (intro w hSw; (try dsimp only at hSw); go_simp; (first | done | with_reducible rfl))))
  (try simp only [Act.put, List.setIfInBounds_toArray, List.set_cons_zero, List.set_cons_succ])
  ((refine takeYZ 6 (by kernel_rfl) (v := ?_) rfl (by kernel_rfl) (by kernel_rfl) (by kernel_rfl) (fun _ _ _ h => h) (by rfl) (by assumption) ?_ ?_; rotate_left; · (intro w hSw; (try dsimp only at hSw); go_simp; (first | done | with_reducible rfl))))
  (try simp only [Act.put, List.setIfInBounds_toArray, List.set_cons_zero, List.set_cons_succ])
  ((refine takeYZ 7 (by kernel_rfl) (v := ?_) rfl (by kernel_rfl) (by kernel_rfl) (by kernel_rfl) (fun _ _ _ h => h) (by rfl) (by assumption) ?_ ?_; rotate_left; · (intro w hSw; (try dsimp only at hSw); go_simp; (first | done | with_reducible rfl))))
  (try simp only [Act.put, List.setIfInBounds_toArray, List.set_cons_zero, List.set_cons_succ])
  ((refine takeYZ 8 (by kernel_rfl) (v := ?_) rfl (by kernel_rfl) (by kernel_rfl) (by kernel_rfl) (fun _ _ _ h => h) (by rfl) (by assumption) ?_ ?_; rotate_left; · (intro w hSw; (try dsimp only at hSw); go_simp; (first | done | with_reducible rfl))))
  (try simp only [Act.put, List.setIfInBounds_toArray, List.set_cons_zero, List.set_cons_succ])
  ((refine takeYZ 9 (by kernel_rfl) (v := ?_) rfl (by kernel_rfl) (by kernel_rfl) (by kernel_rfl) (fun _ _ _ h => h) (by rfl) (by assumption) ?_ ?_; rotate_left; · (intro w hSw; (try dsimp only at hSw); go_simp; (first | done | with_reducible rfl))))
  (try simp only [Act.put, List.setIfInBounds_toArray, List.set_cons_zero, List.set_cons_succ])
  ((refine takeYZ 10 (by kernel_rfl) (v := ?_) rfl (by kernel_rfl) (by kernel_rfl) (by kernel_rfl) (fun _ _ _ h => h) (by rfl) (by assumption) ?_ ?_; rotate_left; · (intro w hSw; (try dsimp only at hSw); go_simp; (first | done | with_reducible rfl))))
  (try simp only [Act.put, List.setIfInBounds_toArray, List.set_cons_zero, List.set_cons_succ])
  refine readyZ (rs := [11, 12]) (by kernel_rfl) (by simp) ?_
  refine consZ 11 rfl (by rfl) (fun K hK => ?_) (consZ 12 rfl (by rfl) (fun K hK => ?_) (nilZ))
  · go_simp
    (with_reducible refine CD.out.mono ?_)
    rintro e w2 ⟨v2, rfl, hown2, hg2, hf2⟩
    have HG2 := Lib.hid hg2
    (refine hK.out _ _ ?_ (fun hHeld => ?_))
    · exact SK.out _ HG2.out
    clear hK K
    have HOW := Lib.hid hown2
    have HFR := Lib.hid (show v2.ownBlock = (vs o).ownBlock ∨ ∃ g, v2.ownBlock = some g ∧ w0.heap.size ≤ g from .inl hf2)
    clear hown2 hg2 hf2
    refine stepZ 12 rfl (by kernel_rfl) (by rfl) (fun K hK => ?_)
    go_simp
    refine hK.out _ _ hHeld (fun hHeld => ?_)
    clear hK K
    refine stepZ 13 rfl (by kernel_rfl) (by rfl) (fun K hK => ?_)
    go_simp
    refine hK.out _ _ hHeld (fun hHeld => ?_)
    clear hK K
    ((refine takeYZ 14 (by kernel_rfl) (v := ?_) rfl (by kernel_rfl) (by kernel_rfl) (by kernel_rfl) (fun _ _ _ h => h) (by rfl) (by assumption) ?_ ?_; rotate_left; · (intro w hSw; (try dsimp only at hSw); go_simp; (first | done | with_reducible rfl))))
    (try simp only [Act.put, List.setIfInBounds_toArray, List.set_cons_zero, List.set_cons_succ])
    refine endZ rfl (by kernel_rfl) (by kernel_rfl) (by rfl) (fun K hK => ?_)
    obtain ⟨hq1, hq2⟩ := hHeld
    obtain ⟨Av, nv, cv, rfl⟩ := own_form HOW.out
    go_simp
    refine hK.out _ _ ?_
    clear hK K hq1 hq2
    have HF := Lib.hid (HBZ.out.put ho HG2.out (v := .slice Av nv cv) (xs := cutL x (R o)) (by
      have h9 := HOW.out
      rw [HK1.out] at h9
      unfold cutL
      rw [HK.out, show ((R o).take k ++ (R o).drop (k + 1)).length = (R o).length - 1 by simp; omega]
      exact h9) HFR.out)
    go_wp2
    go_ret
    exact ⟨rfl, _, HF.out.1, (only_fresh HBW2.out).trans HF.out.2, by
      rcases HFR.out with h | ⟨g, h, hg⟩
      · exact .inl h
      · exact .inr ⟨g, h, Nat.le_trans HBW2.out.size hg⟩⟩
  · go_simp
    refine hK.out _ _ hHeld (fun hHeld => ?_)
    clear hK K
    refine readyZ (rs := [11, 13]) (by kernel_rfl) (by simp) ?_
    refine consZ 11 rfl (by rfl) (fun K hK => ?_) (consZ 13 rfl (by rfl) (fun K hK => ?_) (nilZ))
    · go_simp
      (with_reducible refine CD.out.mono ?_)
      rintro e w2 ⟨v2, rfl, hown2, hg2, hf2⟩
      have HG2 := Lib.hid hg2
      (refine hK.out _ _ ?_ (fun hHeld => ?_))
      · exact SK.out _ HG2.out
      clear hK K
      have HOW := Lib.hid hown2
      have HFR := Lib.hid (show v2.ownBlock = (vs o).ownBlock ∨ ∃ g, v2.ownBlock = some g ∧ w0.heap.size ≤ g from .inl hf2)
      clear hown2 hg2 hf2
      refine stepZ 13 rfl (by kernel_rfl) (by rfl) (fun K hK => ?_)
      go_simp
      refine hK.out _ _ hHeld (fun hHeld => ?_)
      clear hK K
      ((refine takeYZ 14 (by kernel_rfl) (v := ?_) rfl (by kernel_rfl) (by kernel_rfl) (by kernel_rfl) (fun _ _ _ h => h) (by rfl) (by assumption) ?_ ?_; rotate_left; · (intro w hSw; (try dsimp only at hSw); go_simp; (first | done | with_reducible rfl))))
      (try simp only [Act.put, List.setIfInBounds_toArray, List.set_cons_zero, List.set_cons_succ])
      refine endZ rfl (by kernel_rfl) (by kernel_rfl) (by rfl) (fun K hK => ?_)
      obtain ⟨hq1, hq2⟩ := hHeld
      obtain ⟨Av, nv, cv, rfl⟩ := own_form HOW.out
      go_simp
      refine hK.out _ _ ?_
      clear hK K hq1 hq2
      have HF := Lib.hid (HBZ.out.put ho HG2.out (v := .slice Av nv cv) (xs := cutL x (R o)) (by
        have h9 := HOW.out
        rw [HK1.out] at h9
        unfold cutL
        rw [HK.out, show ((R o).take k ++ (R o).drop (k + 1)).length = (R o).length - 1 by simp; omega]
        exact h9) HFR.out)
      go_wp2
      go_ret
      exact ⟨rfl, _, HF.out.1, (only_fresh HBW2.out).trans HF.out.2, by
        rcases HFR.out with h | ⟨g, h, hg⟩
        · exact .inl h
        · exact .inr ⟨g, h, Nat.le_trans HBW2.out.size hg⟩⟩
    · go_simp
      refine hK.out _ _ hHeld (fun hHeld => ?_)
      clear hK K
      refine stepZ 11 rfl (by kernel_rfl) (by rfl) (fun K hK => ?_)
      go_simp
      (with_reducible refine CD.out.mono ?_)
      rintro e w2 ⟨v2, rfl, hown2, hg2, hf2⟩
      have HG2 := Lib.hid hg2
      (refine hK.out _ _ ?_ (fun hHeld => ?_))
      · exact SK.out _ HG2.out
      clear hK K
      have HOW := Lib.hid hown2
      have HFR := Lib.hid (show v2.ownBlock = (vs o).ownBlock ∨ ∃ g, v2.ownBlock = some g ∧ w0.heap.size ≤ g from .inl hf2)
      clear hown2 hg2 hf2
      ((refine takeYZ 14 (by kernel_rfl) (v := ?_) rfl (by kernel_rfl) (by kernel_rfl) (by kernel_rfl) (fun _ _ _ h => h) (by rfl) (by assumption) ?_ ?_; rotate_left; · (intro w hSw; (try dsimp only at hSw); go_simp; (first | done | with_reducible rfl))))
      (try simp only [Act.put, List.setIfInBounds_toArray, List.set_cons_zero, List.set_cons_succ])
      refine endZ rfl (by kernel_rfl) (by kernel_rfl) (by rfl) (fun K hK => ?_)
      obtain ⟨hq1, hq2⟩ := hHeld
      obtain ⟨Av, nv, cv, rfl⟩ := own_form HOW.out
      go_simp
      refine hK.out _ _ ?_
      clear hK K hq1 hq2
      have HF := Lib.hid (HBZ.out.put ho HG2.out (v := .slice Av nv cv) (xs := cutL x (R o)) (by
        have h9 := HOW.out
        rw [HK1.out] at h9
        unfold cutL
        rw [HK.out, show ((R o).take k ++ (R o).drop (k + 1)).length = (R o).length - 1 by simp; omega]
        exact h9) HFR.out)
      go_wp2
      go_ret
      exact ⟨rfl, _, HF.out.1, (only_fresh HBW2.out).trans HF.out.2, by
        rcases HFR.out with h | ⟨g, h, hg⟩
        · exact .inl h
        · exact .inr ⟨g, h, Nat.le_trans HBW2.out.size hg⟩⟩
end Go.Proofs.Ytmmjkebhcihjlaa
