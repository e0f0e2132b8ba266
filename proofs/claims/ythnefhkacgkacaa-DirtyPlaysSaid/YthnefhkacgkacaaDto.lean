/- What told of layer 19 tells. -/
import Derived.Test.YthnefhkacgkacaaSrtx
import Derived.Test.YthnefhkacgkacaaWords
namespace Go.Proofs.Ythnefhkacgkacaa
open Go.RowKit Mf

/-- Strictly rising lists with the same members are one. -/
theorem strict_ext {l m : List Int} (hl : l.Pairwise (· < ·)) (hm : m.Pairwise (· < ·)) (h : ∀ p, p ∈ l ↔ p ∈ m) : l = m := by
  have n1 : l.Nodup := hl.imp fun h e => by omega
  have n2 : m.Nodup := hm.imp fun h e => by omega
  have hp : l.Perm m := (List.perm_ext_iff_of_nodup n1 n2).2 h
  exact List.Perm.eq_of_pairwise (le := (· < ·)) (fun a b _ _ h1 h2 => by omega) hl hm hp

theorem reads_two (w : World) (x y : Value) (t : TypeId) : Reads (w.alloc (.cells #[x, y] t)) (w.alloc (.cells #[x, y] t)).heap.size 1 (some ⟨w.heap.size, 0, none⟩) 2 [x, y] := by
  refine ⟨rfl, fun _ => ⟨_, rfl, by simp, fun j u hj => ?_⟩⟩
  have hB := Blk.new w t #[x, y]
  have hz : (⟨w.heap.size, 0, none⟩ : Addr).add j = ⟨w.heap.size, j, none⟩ := by unfold Addr.add; split <;> simp_all
  rw [hz, hB.cell j]
  simpa using hj

/-- Only blocks from B on have turned in the log's call. -/
theorem ds_below {w0 w w' : World} {b B : Nat} (hb : Below B w0 w) (ho : Only (DS w b B) w w') (h : B ≤ b) (hB : B ≤ w.heap.size) : Below B w0 w' :=
  hb.trans (ho.to_below (by rintro k (rfl | h); exact h; exact h.1) hB)

/-- What a collected list is. -/
theorem coll_is {xs ys : List Int} {P : Int → Bool} (h1 : xs.Pairwise (· < ·)) (h2 : ∀ p, p ∈ xs ↔ P p = true) (h3 : ys.Pairwise (· < ·)) (h4 : ∀ p, P p = true ↔ p ∈ ys) : xs = ys :=
  strict_ext h1 h3 fun p => (h2 p).trans (h4 p)

/-- A row of one's own outlives the log's calls. -/
theorem own_ds {w w' : World} {b B base size n : Nat} {e : TypeId} {v : Value} {xs : List Value} (h : w.ownsRow base e size v n xs) (ho : Only (DS w b B) w w') (hb : b < base) : w'.ownsRow base e size v n xs := by
  obtain ⟨h1, h2⟩ := h
  refine ⟨h1, ?_⟩
  rcases h2 with h2 | ⟨g, cap, cur, e1, e2, e3, e4⟩
  · exact .inl h2
  · have hlt : g < w.heap.size := by
      rcases Nat.lt_or_ge g w.heap.size with h | h
      · exact h
      · rw [Array.getElem?_eq_none h] at e3; cases e3
    refine .inr ⟨g, cap, cur, e1, e2, (ho.block g hlt ?_).trans e3, e4⟩
    rintro (rfl | ⟨_, es, c, h⟩)
    · omega
    · rw [e3] at h; cases h

theorem sortOk0 : SortOk 0 := fun base v xs w h hn => sortOk12 base v xs w h (by omega)

theorem slice_nil {w : World} {base : Nat} {e : TypeId} {v : Value} (h : w.ownsRow base e 1 v 0 []) : ∃ A c, v = .slice A 0 c := by
  rcases h.2 with ⟨rfl, _⟩ | ⟨g, cap, cur, rfl, _⟩
  · exact ⟨_, _, rfl⟩
  · exact ⟨_, _, rfl⟩

set_option maxHeartbeats 1000000 in
theorem told_any (w : World) : Calls Try.prog 21 #[] w fun e w' => e = .returned (.bool true) ∧ Below w.heap.size w w' := by
  go_enter Try.func21, Try.ntmps21
  go_wp2_with fail
  refine (dnew_any _).mono ?_; rintro e w1 ⟨rfl, h1, hb1⟩
  have H1 := Lib.hid h1
  have HB1 := Lib.hid hb1
  clear h1 hb1
  go_wp2_with fail
  refine (dnote_off _ _ _ _ 5 _ H1.out).mono ?_; rintro e w2 ⟨rfl, rfl⟩
  go_wp2_with fail
  refine (dstart_off _ _ _ _ _ H1.out (by have := HB1.out.size; omega)).mono ?_; rintro e w2 ⟨rfl, h2, ho2⟩
  have H2 := Lib.hid h2
  have HB2 := Lib.hid (ds_below HB1.out ho2 (by omega) HB1.out.size)
  clear h2 ho2
  go_wp2_with fail
  refine (dstart_on _ _ _ _ _ H2.out).mono ?_; rintro e w3 ⟨rfl, rfl⟩
  go_wp2_with fail
  refine (dnote_on _ _ _ _ 9 _ H2.out (by decide) (by decide)).mono ?_; rintro e w3 ⟨rfl, h3, ho3⟩
  have H3 := Lib.hid h3
  have HB3 := Lib.hid (ds_below HB2.out ho3 (by omega) HB2.out.size)
  clear h3 ho3
  go_wp2_with fail
  refine (dnote_on _ _ _ _ 5 _ H3.out (by decide) (by decide)).mono ?_; rintro e w4 ⟨rfl, h4, ho4⟩
  have H4 := Lib.hid h4
  have HB4 := Lib.hid (ds_below HB3.out ho4 (by omega) HB3.out.size)
  clear h4 ho4
  go_wp2_with fail
  refine (dnote_on _ _ _ _ 9 _ H4.out (by decide) (by decide)).mono ?_; rintro e w5 ⟨rfl, h5, ho5⟩
  have H5 := Lib.hid h5
  have HB5 := Lib.hid (ds_below HB4.out ho5 (by omega) HB4.out.size)
  clear h5 ho5
  go_wp2_with fail
  refine (dcoll_on _ _ _ _ _ (H5.out.mono (N' := 12) (by decide)) (by decide) (by have := HB5.out.size; omega) sortOk12).mono ?_; rintro e w6 ⟨v, xs, rfl, hx1, hx2, hown, h6, ho6⟩
  have hxs : xs = [5, 9] := coll_is hx1 hx2 (by decide) (fun p => by simp; omega)
  subst hxs
  have H6 := Lib.hid h6
  have HB6 := Lib.hid (ds_below HB5.out ho6 (by omega) HB5.out.size)
  have hw5 : w.heap.size ≤ w5.heap.size := HB5.out.size
  have hb5 : w.heap.size + 1 < w5.heap.size := H5.out.lt
  obtain ⟨g, cap, rfl, _, _⟩ := hown.form (by decide)
  have HW6 := Lib.hid hown
  clear hx1 hx2 hown h6 ho6 hw5
  go_wp2_with fail
  refine (dcoll_on _ _ _ _ _ H6.out (by decide) (by have := HB6.out.size; omega) sortOk0).mono ?_; rintro e w7 ⟨v, xs, rfl, hx1, hx2, hown, h7, ho7⟩
  have hxs : xs = [] := coll_is hx1 hx2 .nil (fun p => by simp)
  subst hxs
  obtain ⟨A, c, rfl⟩ := slice_nil hown
  have H7 := Lib.hid h7
  have HB7 := Lib.hid (ds_below HB6.out ho7 (by omega) HB6.out.size)
  have HW7 := Lib.hid (own_ds HW6.out ho7 hb5)
  clear hx1 hx2 hown h7 ho7
  go_wp2_with fail
  have hal := (Below.refl w7.heap.size w7).alloc (Nat.le_refl _) (.cells #[.int .u64 5, .int .u64 9] 29)
  have HR1 := Lib.hid (Reads.of_own (HW7.out.alloc (.cells #[.int .u64 5, .int .u64 9] 29)))
  have HR2 := Lib.hid (reads_two w7 (.int .u64 5) (.int .u64 9) 29)
  refine (words_any _ _ _ _ _ _ _ _ [5, 9] [5, 9] _ HR1.out HR2.out (by decide)).mono ?_; rintro e w8 ⟨rfl, hb8⟩
  have hb7 := hal.trans (hb8.mono hal.size)
  have H8 := Lib.hid (H7.out.below hb7)
  have HB8 := Lib.hid (HB7.out.trans (hb7.mono HB7.out.size))
  clear hal HR1 HR2 hb7 hb8
  go_wp2_with fail
  refine (dnote_on _ _ _ _ 1 _ H8.out (by decide) (by decide)).mono ?_; rintro e w9 ⟨rfl, h9, ho9⟩
  have H9 := Lib.hid h9
  have HB9 := Lib.hid (ds_below HB8.out ho9 (by omega) HB8.out.size)
  clear h9 ho9
  go_wp2_with fail
  refine (dhas_any _ _ _ _ _ 1 _ H9.out (by decide)).mono ?_; rintro e w10 ⟨rfl, rfl⟩
  go_wp2_with fail
  refine (dforget_any _ _ _ _ _ 1 _ H9.out (by decide) (by decide)).mono ?_; rintro e w10 ⟨rfl, h10, ho10⟩
  have H10 := Lib.hid h10
  have HB10 := Lib.hid (ds_below HB9.out ho10 (by omega) HB9.out.size)
  clear h10 ho10
  go_wp2_with fail
  refine (dforget_any _ _ _ _ _ 1 _ H10.out (by decide) (by decide)).mono ?_; rintro e w11 ⟨rfl, h11, ho11⟩
  have H11 := Lib.hid h11
  have HB11 := Lib.hid (ds_below HB10.out ho11 (by omega) HB10.out.size)
  clear h11 ho11
  go_wp2_with fail
  refine (dstop_on _ _ _ _ _ H11.out (by have := HB11.out.size; omega)).mono ?_; rintro e w12 ⟨rfl, h12, ho12⟩
  have H12 := Lib.hid h12
  have HB12 := Lib.hid (ds_below HB11.out ho12 (by omega) HB11.out.size)
  clear h12 ho12
  go_wp2_with fail
  refine (don_any _ _ _ _ _ _ H12.out).mono ?_; rintro e w13 ⟨rfl, rfl⟩
  go_wp2
  go_ret
  exact ⟨rfl, HB12.out⟩
end Go.Proofs.Ythnefhkacgkacaa
