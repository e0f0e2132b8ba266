/- What told of layer 2 tells. -/
import Derived.Test.YtghniddefhdmmaaHtg
namespace Go.Proofs.Ytghniddefhdmmaa
open Go.RowKit Flo

theorem bit0 : (0 : Nat) = F 0 := by decide +kernel
theorem bit1 : (4607182418800017408 : Nat) = F 1 := by decide +kernel
theorem bit2 : (4611686018427387904 : Nat) = F 2 := by decide +kernel
theorem bit3 : (4613937818241073152 : Nat) = F 3 := by decide +kernel
theorem bitm1 : (13830554455654793216 : Nat) = F (-1) := by decide +kernel
theorem is0 : Is 0 0 := .inl bit0
theorem is1 : Is 4607182418800017408 1 := .inl bit1
theorem is2 : Is 4611686018427387904 2 := .inl bit2
theorem is3 : Is 4613937818241073152 3 := .inl bit3
theorem ism1 : Is 13830554455654793216 (-1) := .inl bitm1

theorem srtd_pw {d : List Int} (h : Srtd d 0 d.length) : d.Pairwise fun a b => a ≤ b := srtd_eq h

/-- A rank is what is in order. -/
theorem rank_is {hs : List (Int × Int)} {d l : List Int} {n : Nat} (hp : d.Perm l) (hn : d.length = n) (hs' : Srtd (d.map (lex hs)) 0 n) (hl : l.Pairwise fun a b => lex hs a ≤ lex hs b) (hinj : ∀ a ∈ l, ∀ b ∈ l, lex hs a = lex hs b → a = b) : d = l := by
  have h1 : (d.map (lex hs)).Pairwise fun a b => a ≤ b := srtd_eq (by rw [List.length_map, hn]; exact hs')
  rw [List.pairwise_map] at h1
  refine List.Perm.eq_of_pairwise (le := fun a b => lex hs a ≤ lex hs b) (fun a b ha hb h1 h2 => ?_) h1 hl hp
  exact hinj a (hp.mem_iff.1 ha) b hb (by omega)

theorem reads_lit (w : World) (cs : List Value) (t : TypeId) : Reads (w.alloc (.cells cs.toArray t)) (w.alloc (.cells cs.toArray t)).heap.size 1 (some ⟨w.heap.size, 0, none⟩) cs.length cs := by
  refine ⟨by simp, fun _ => ⟨_, rfl, by simp, fun j u hj => ?_⟩⟩
  have hB := Blk.new w t cs.toArray
  have hz : (⟨w.heap.size, 0, none⟩ : Addr).add j = ⟨w.heap.size, j, none⟩ := by unfold Addr.add; split <;> simp_all
  rw [hz, hB.cell j]
  simpa using hj

theorem so3 : StableOk 3 := fun base g n cap hp hr hs d w h hm hne hix hrise hn => stableOk19 base g n cap hp hr hs d w h hm hne hix hrise (by omega)
theorem so2 : StableOk 2 := fun base g n cap hp hr hs d w h hm hne hix hrise hn => stableOk19 base g n cap hp hr hs d w h hm hne hix hrise (by omega)
theorem so0 : StableOk 0 := fun base g n cap hp hr hs d w h hm hne hix hrise hn => stableOk19 base g n cap hp hr hs d w h hm hne hix hrise (by omega)

theorem eqc {a b c d : Nat} {n m : Int} (ha : Is a n) (hb : Is b m) (hc : Is c n) (hd : Is d m) (hn : n.natAbs ≤ 2 ^ 53) (hm : m.natAbs ≤ 2 ^ 53) : FloatKind.f64.format.order a c = some .eq ∧ FloatKind.f64.format.order b d = some .eq :=
  ⟨ord_eq ha hc hn hn rfl, ord_eq hb hd hm hm rfl⟩

theorem coldL_any (w1 : World) : Calls Try.prog 15 #[.slice (some ⟨w1.heap.size, 0, none⟩) 2 2, .slice (some ⟨w1.heap.size + 1, 0, none⟩) 1 1]
    ((w1.alloc (.cells #[.complex .f64 0 0, .complex .f64 4607182418800017408 0] 22)).alloc (.cells #[.bool true] 4)) fun e w' => e = .returned (.int .i64 1) ∧ Below w1.heap.size w1 w' := by
  have h1 := reads_lit w1 [.complex .f64 0 0, .complex .f64 4607182418800017408 0] 22
  have h2 := reads_lit (w1.alloc (.cells #[.complex .f64 0 0, .complex .f64 4607182418800017408 0] 22)) [.bool true] 4
  have hb := (Below.refl (w1.alloc (.cells #[.complex .f64 0 0, .complex .f64 4607182418800017408 0] 22)).heap.size (w1.alloc (.cells #[.complex .f64 0 0, .complex .f64 4607182418800017408 0] 22))).alloc (Nat.le_refl _) (.cells #[.bool true] 4)
  have h1' := h1.below hb
  have hr : [Value.complex .f64 0 0, .complex .f64 4607182418800017408 0] = [((0 : Int), (0 : Int)), (1, 0)].map hv := by simp [hv, ← bit0, ← bit1]
  simp only [List.length_cons, List.length_nil] at h1' h2
  refine (cold_any _ _ 2 2 _ 1 1 _ [((0 : Int), (0 : Int)), (1, 0)] [true] _ (by rw [← hr]; exact h1') (by intro x hx; simp at hx; rcases hx with rfl | rfl <;> (unfold Rgt; decide)) (by decide) (by simp) so2 (by simpa using h2) (by simp)).mono ?_
  rintro e w' ⟨d, rfl, hp, hs, hb'⟩
  obtain rfl : d = [0, 1] := rank_is (hp.trans (by decide)) (by have := hp.length_eq; simpa using this) hs (by decide) (by decide)
  refine ⟨rfl, ?_⟩
  exact (((Below.refl w1.heap.size w1).alloc (Nat.le_refl _) _).alloc (by simp) _).trans (hb'.mono (by simp; omega))

theorem coldN_any (w : World) : Calls Try.prog 15 #[.slice none 0 0, .slice none 0 0] w fun e w' => e = .returned (.int .i64 (-1)) ∧ Below w.heap.size w w' := by
  refine (cold_any none none 0 0 0 0 0 0 [] [] w ⟨rfl, fun h => absurd h (by omega)⟩ (by simp) (by decide) (Nat.zero_le _) so0 ⟨rfl, fun h => absurd h (by omega)⟩ (Nat.zero_le _)).mono ?_
  rintro e w' ⟨d, rfl, hp, hs, hb'⟩
  obtain rfl : d = [] := by have := hp.length_eq; exact List.eq_nil_of_length_eq_zero (by simpa using this)
  exact ⟨rfl, hb'⟩

set_option maxRecDepth 100000 in
set_option maxHeartbeats 4000000 in
theorem told_any (w : World) : Calls Try.prog 12 #[] w fun e w' => e = .returned (.bool true) ∧ Below w.heap.size w w' := by
  have o1 := eqc (F_is 3) (F_is 2) is3 is2 (by decide) (by decide)
  have o2 := eqc (F_is 1) (F_is 0) is1 is0 (by decide) (by decide)
  obtain ⟨o3, o4⟩ := o1
  obtain ⟨o5, o6⟩ := o2
  go_enter Try.func12, Try.ntmps12
  go_wp2_with fail
  have hr1 := reads_lit w [.complex .f64 0 4611686018427387904, .complex .f64 4607182418800017408 0, .complex .f64 0 0] 22
  have HR1 := Lib.hid (show Reads (w.alloc (.cells #[.complex .f64 0 4611686018427387904, .complex .f64 4607182418800017408 0, .complex .f64 0 0] 22)) (w.alloc (.cells #[.complex .f64 0 4611686018427387904, .complex .f64 4607182418800017408 0, .complex .f64 0 0] 22)).heap.size 1 (some ⟨w.heap.size, 0, none⟩) 3 ([((0 : Int), (2 : Int)), (1, 0), (0, 0)].map hv) from by
    rw [show [((0 : Int), (2 : Int)), (1, 0), (0, 0)].map hv = [.complex .f64 0 4611686018427387904, .complex .f64 4607182418800017408 0, .complex .f64 0 0] by simp [hv, ← bit0, ← bit1, ← bit2]]
    exact hr1)
  clear hr1
  refine (rank_any _ 3 _ _ [((0 : Int), (2 : Int)), (1, 0), (0, 0)] _ HR1.out (by intro x hx; simp at hx; rcases hx with rfl | rfl | rfl <;> (unfold Rgt; decide)) (by decide) (Nat.le_refl _) so3).mono ?_
  rintro e w1 ⟨g, d, rfl, hown, hp, hs', hb1⟩
  obtain rfl : d = [2, 1, 0] := rank_is (hp.trans (by decide)) (by have := hp.length_eq; simpa using this) hs' (by decide) (by decide)
  have c0 := hown.cellAt 0 (by decide)
  have c1 := hown.cellAt 1 (by decide)
  have c2 := hown.cellAt 2 (by decide)
  have HB1 := Lib.hid (show Below w.heap.size w w1 from ((Below.refl w.heap.size w).alloc (Nat.le_refl _) _).trans (hb1.mono (by simp)))
  clear hown hp hs' hb1
  go_wp2_with fail
  refine (touch_any _ _ 3 1 true _ is3 is1 (by decide) (by decide)).mono ?_; rintro e w2 ⟨rfl, rfl⟩
  go_wp2_with fail
  refine (fade_any _ _ 3 1 _ is3 is1 (by decide) (by decide)).mono ?_; rintro e w2 ⟨rfl, rfl⟩
  go_wp2_with fail
  have hcl := coldL_any w1
  refine hcl.mono ?_
  rintro e w2 ⟨rfl, hb2⟩
  have HB2 := Lib.hid (HB1.out.trans (hb2.mono (HB1.out.size)))
  clear hcl hb2
  go_wp2_with fail
  refine (coldN_any w2).mono ?_
  rintro e w3 ⟨rfl, hb3⟩
  have HB3 := Lib.hid (HB2.out.trans (hb3.mono (HB2.out.size)))
  clear hb3
  go_wp2_with fail
  refine (right_yes _ _ 1 0 _ is1 is0 (by decide) (by decide)).mono ?_; rintro e w4 ⟨rfl, rfl⟩
  go_wp2_with fail
  refine (right_no _ _ (-1) 0 _ ism1 is0 (by decide) (by decide) (by decide)).mono ?_; rintro e w4 ⟨rfl, rfl⟩
  go_wp2
  go_ret
  exact ⟨rfl, HB3.out⟩
end Go.Proofs.Ytghniddefhdmmaa
