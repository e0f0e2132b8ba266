/- What Lend, Back, Add and List of package demesneref21 do: contracts. -/
import Derived.Test.YtephgikeofkblaaHosr2
import Derived.Test.YtephgikeofkblaaHost
import Derived.Test.YtephgikeofkblaaH21a
namespace Go.Proofs.Ytephgikeofkblaa
open Go.RowKit Mf

theorem RefAt.set {w : World} {rb B g c n : Nat} {ps : List RP} (h : RefAt w rb B (.slice (some ⟨g, 0, none⟩) n c) ps) (hn : n = ps.length) (hB : B ≤ g) {i q : Nat} {x x' : RP} {u : Value} (hx : ps[i]? = some x) (hq : q < 5) (he : rpC x' = (rpC x).set q u) :
    RefAt (w.setCell ⟨g, i * 5 + q, none⟩ u) rb B (.slice (some ⟨g, 0, none⟩) n c) (ps.set i x') := by
  subst hn
  refine ⟨h.blk.far (p := ⟨g, i * 5 + q, none⟩) (by have := h.lt; simp; omega) _, ?_, h.lt⟩
  rw [List.length_set]
  exact own_stored rpC_len h.own hx hq he

theorem get_set_same {ps : List RP} {i : Nat} {x y : RP} (h : ps[i]? = some x) : (ps.set i y)[i]? = some y := by
  have hil : i < ps.length := (List.getElem?_eq_some_iff.1 h).1
  rw [List.getElem?_set, if_pos rfl, if_pos hil]

set_option maxHeartbeats 1000000 in
theorem rlend_any (rb B : Nat) (ps : List RP) (k g' p' : Int) (w : World) (h : RefE w rb B ps) (hlen : ps.length ≤ 1000000) (hk64 : -9223372036854775808 ≤ k ∧ k ≤ 9223372036854775807) :
    Calls Try.prog 10 #[.pointer (some ⟨rb, 0, none⟩), .int .i64 k, .agg #[.int .i64 g', .int .u64 p']] w (RefStep w rb B ps ps.length (.int .i64 (lendE (rf ps) k)) (lendF (rf ps) k g' p')) := by
  obtain ⟨v, h0⟩ := h
  have hb0 := (Below.refl w.heap.size w).alloc (Nat.le_refl _) (.cells #[.int .i64 g', .int .u64 p'] 31)
  have h := h0.below hb0
  have H0 := Lib.hid h0
  have HB0 := Lib.hid hb0
  clear h0 hb0
  unfold lendE lendF
  cases hf : rf ps k with
  | none =>
    have hat := Lib.hid (at_none rb B v ps k _ h hf hlen hk64)
    clear h hf hlen hk64
    go_enter Try.func10, Try.ntmps10
    go_wp2_with fail
    refine hat.out.mono ?_; rintro e w1 ⟨rfl, rfl⟩
    go_wp2
    go_ret
    exact refstep_same H0.out HB0.out _ _ (fun _ => rfl)
  | some y =>
    obtain ⟨i, x, hi, hx, hon, rfl⟩ := some_of_rf hf
    obtain ⟨g, c, rfl, hB⟩ := ref_some h hx
    have c2 := (own_cell (q := 2) rpC_len h.own hx (by decide)).trans (show _ = some (.bool x.lent) from rfl)
    have c3 := (own_cell (q := 3) rpC_len h.own hx (by decide)).trans (show _ = some (.int .i64 x.g) from rfl)
    have c4 := (own_cell (q := 4) rpC_len h.own hx (by decide)).trans (show _ = some (.int .u64 x.p) from rfl)
    have z2 := h.own.frozenAt (i * 5 + 2)
    have z3 := h.own.frozenAt (i * 5 + 3)
    have z4 := h.own.frozenAt (i * 5 + 4)
    have d2 := (own_cell (q := 2) rpC_len H0.out.own hx (by decide)).trans (show _ = some (.bool x.lent) from rfl)
    have d3 := (own_cell (q := 3) rpC_len H0.out.own hx (by decide)).trans (show _ = some (.int .i64 x.g) from rfl)
    have d4 := (own_cell (q := 4) rpC_len H0.out.own hx (by decide)).trans (show _ = some (.int .u64 x.p) from rfl)
    have d4' : w.cell? ⟨g, i * 5 + 3 + 1, none⟩ = some (.int .u64 x.p) := d4
    have y2 := H0.out.own.frozenAt (i * 5 + 2)
    have y3 := H0.out.own.frozenAt (i * 5 + 3)
    have y4 : w.frozen? ⟨g, i * 5 + 3 + 1, none⟩ = false := H0.out.own.frozenAt (i * 5 + 4)
    have hgl : g < w.heap.size := (H0.out.own.lt g rfl).2
    have hat := Lib.hid (at_some rb B g c ps k i x _ h hi hx hon hlen)
    have H := Lib.hid h
    have HI := Lib.hid hi
    have HX := Lib.hid hx
    have HO := Lib.hid hon
    clear h hf hlen hk64 hi hx hon
    obtain ⟨xo, xf, xl, xg, xp⟩ := x
    simp only at c2 c3 c4 d2 d3 d4 d4'
    cases xl
    · go_enter Try.func10, Try.ntmps10
      go_wp2_with fail
      refine hat.out.mono ?_; rintro e w1 ⟨rfl, rfl⟩
      go_wp2
      go_region
      go_wp2
      go_ret
      have hil : i < ps.length := (List.getElem?_eq_some_iff.1 HX.out).1
      have r1 := H0.out.set rfl hB (q := 2) (x' := ⟨xo, xf, true, xg, xp⟩) (u := .bool true) HX.out (by decide) rfl
      have r2 := r1.set (by simp) hB (q := 3) (x' := ⟨xo, xf, true, g', xp⟩) (u := .int .i64 g') (get_set_same HX.out) (by decide) rfl
      have r3 := r2.set (by simp) hB (q := 4) (x' := ⟨xo, xf, true, g', p'⟩) (u := .int .u64 p') (get_set_same (get_set_same HX.out)) (by decide) rfl
      have ho := (((((Only.refl (RS w rb B) w).setCell (p := ⟨g, i * 5 + 2, none⟩) (.inl (.inr (page_blk H0.out))) (.bool true)).setCell (p := ⟨g, i * 5 + 3, none⟩) (.inl (.inr (page_blk H0.out))) (.int .i64 g')).setCell (p := ⟨g, i * 5 + 4, none⟩) (.inl (.inr (page_blk H0.out))) (.int .u64 p')).alloc (.cells #[.int .i64 g', .int .u64 p'] 31)).drew
      refine ⟨rfl, _, ⟨_, r3.below (((Below.refl _ _).alloc (Nat.le_refl _) _).drew)⟩, fun j => ?_, by simp, fun hz => zp_set (zp_set (zp_set hz (fun e => by cases e)) (fun e => by cases e)) (fun e => by cases e), ho⟩
      rw [rf_set (by simpa using hil), rf_set (by simpa using hil), rf_set hil, HI.out]
      obtain rfl : xo = true := HO.out
      unfold setF
      by_cases hj : j = (i : Int) + 1
      · rw [if_pos hj, if_pos hj]; rfl
      · rw [if_neg hj, if_neg hj, if_neg hj, if_neg hj]
    · go_enter Try.func10, Try.ntmps10
      go_wp2_with fail
      refine hat.out.mono ?_; rintro e w1 ⟨rfl, rfl⟩
      go_wp2
      go_ret
      exact refstep_same H0.out HB0.out _ _ (fun _ => rfl)

set_option maxHeartbeats 1000000 in
theorem rback_any (rb B : Nat) (ps : List RP) (k : Int) (w : World) (h : RefE w rb B ps) (hlen : ps.length ≤ 1000000) (hk64 : -9223372036854775808 ≤ k ∧ k ≤ 9223372036854775807) :
    Calls Try.prog 12 #[.pointer (some ⟨rb, 0, none⟩), .int .i64 k] w (RefStep w rb B ps ps.length (.int .i64 (backE (rf ps) k)) (backF (rf ps) k)) := by
  obtain ⟨v, h⟩ := h
  unfold backE backF
  cases hf : rf ps k with
  | none =>
    have hat := Lib.hid (at_none rb B v ps k _ h hf hlen hk64)
    have H := Lib.hid h
    clear h hf hlen hk64
    go_enter Try.func12, Try.ntmps12
    go_wp2_with fail
    refine hat.out.mono ?_; rintro e w1 ⟨rfl, rfl⟩
    go_wp2
    go_ret
    exact refstep_same H.out (Below.refl _ _) _ _ (fun _ => rfl)
  | some y =>
    obtain ⟨i, x, hi, hx, hon, rfl⟩ := some_of_rf hf
    obtain ⟨g, c, rfl, hB⟩ := ref_some h hx
    have d2 := (own_cell (q := 2) rpC_len h.own hx (by decide)).trans (show _ = some (.bool x.lent) from rfl)
    have d3 := (own_cell (q := 3) rpC_len h.own hx (by decide)).trans (show _ = some (.int .i64 x.g) from rfl)
    have d4 := (own_cell (q := 4) rpC_len h.own hx (by decide)).trans (show _ = some (.int .u64 x.p) from rfl)
    have d4' : w.cell? ⟨g, i * 5 + 3 + 1, none⟩ = some (.int .u64 x.p) := d4
    have y2 := h.own.frozenAt (i * 5 + 2)
    have y3 := h.own.frozenAt (i * 5 + 3)
    have y4 : w.frozen? ⟨g, i * 5 + 3 + 1, none⟩ = false := h.own.frozenAt (i * 5 + 4)
    have hat := Lib.hid (at_some rb B g c ps k i x _ h hi hx hon hlen)
    have H := Lib.hid h
    have HI := Lib.hid hi
    have HX := Lib.hid hx
    have HO := Lib.hid hon
    clear h hf hlen hk64 hi hx hon
    obtain ⟨xo, xf, xl, xg, xp⟩ := x
    simp only at d2 d3 d4 d4'
    cases xl
    · go_enter Try.func12, Try.ntmps12
      go_wp2_with fail
      refine hat.out.mono ?_; rintro e w1 ⟨rfl, rfl⟩
      go_wp2
      go_ret
      exact refstep_same H.out (Below.refl _ _) _ _ (fun _ => rfl)
    · go_enter Try.func12, Try.ntmps12
      go_wp2_with fail
      refine hat.out.mono ?_; rintro e w1 ⟨rfl, rfl⟩
      go_wp2
      go_ret
      have hil : i < ps.length := (List.getElem?_eq_some_iff.1 HX.out).1
      have r1 := H.out.set rfl hB (q := 2) (x' := ⟨xo, xf, false, xg, xp⟩) (u := .bool false) HX.out (by decide) rfl
      have r2 := r1.set (by simp) hB (q := 3) (x' := ⟨xo, xf, false, 0, xp⟩) (u := .int .i64 0) (get_set_same HX.out) (by decide) rfl
      have r3 := r2.set (by simp) hB (q := 4) (x' := ⟨xo, xf, false, 0, 0⟩) (u := .int .u64 0) (get_set_same (get_set_same HX.out)) (by decide) rfl
      have ho := (((Only.refl (RS w rb B) w).setCell (p := ⟨g, i * 5 + 2, none⟩) (.inl (.inr (page_blk H.out))) (.bool false)).setCell (p := ⟨g, i * 5 + 3, none⟩) (.inl (.inr (page_blk H.out))) (.int .i64 0)).setCell (p := ⟨g, i * 5 + 4, none⟩) (.inl (.inr (page_blk H.out))) (.int .u64 0)
      refine ⟨rfl, _, ⟨_, r3⟩, fun j => ?_, by simp, fun hz => ?_, ho⟩
      · rw [rf_set (by simpa using hil), rf_set (by simpa using hil), rf_set hil, HI.out]
        obtain rfl : xo = true := HO.out
        show _ = setF (rf ps) _ _ j
        unfold setF
        by_cases hj : j = (i : Int) + 1
        · rw [if_pos hj, if_pos hj]; rfl
        · rw [if_neg hj, if_neg hj, if_neg hj, if_neg hj]
      · rw [List.set_set, List.set_set]
        exact zp_set hz (fun _ => ⟨rfl, rfl⟩)
end Go.Proofs.Ytephgikeofkblaa
