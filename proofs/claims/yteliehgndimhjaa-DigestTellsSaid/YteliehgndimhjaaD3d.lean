/- The walk of the statement DigestTells: it returns true. -/
import Derived.Test.YteliehgndimhjaaD3c0
import Derived.Laws.BytesArg
namespace Go.Proofs.Yteliehgndimhjaa
open Go.RowKit Flo

theorem mask32 (v : Nat) (hv : v < 18446744073709551616) : bits .and .u64 (v : Int) 4294967295 = (v : Int) % 4294967296 := by
  show IntKind.u64.wrap ((BitVec.ofInt 64 (v : Int) &&& BitVec.ofInt 64 4294967295).toNat : Int) = _
  have e1 : (BitVec.ofInt 64 (v : Int)).toNat = v := by
    rw [BitVec.toNat_ofInt]; omega
  have e2 : (BitVec.ofInt 64 4294967295).toNat = 2 ^ 32 - 1 := by
    rw [BitVec.toNat_ofInt]; omega
  rw [BitVec.toNat_and, e1, e2, Nat.and_two_pow_sub_one_eq_mod, IntWalk.u64_in _ (by omega)]
  omega

/-- A page's bytes as numbers. -/
def pgl (g : Nat → Nat) : List Int := (List.range pgN).map fun j => (g j : Int)
theorem pgl_len (g : Nat → Nat) : (pgl g).length = 4096 := by unfold pgl; rw [List.length_map, List.length_range]; rfl
theorem pgl_get (g : Nat → Nat) (j : Nat) (h : j < 4096) : (pgl g).getD j 0 = (g j : Int) := by
  have hj : j < pgN := by rw [pgN_eq]; exact h
  unfold pgl
  rw [List.getD_eq_getElem?_getD, List.getElem?_map, List.getElem?_range hj]; rfl

/-- A page as a string. -/
theorem page_string {W : World} {b cap : Nat} {g : Nat → Nat} (h : PageAt W b g) :
    (convert 23 9 (.slice (some ⟨b, 0, none⟩) 4096 cap)).run Try.prog W = .ok (.string (strOfNums (pgl g))) W :=
  run_convert_bytes_arg W _ 5 (by kernel_rfl) (by kernel_rfl) b 0 4096 cap (pgl g) (pgl_len g) (fun i hi => by rw [Nat.zero_add, h i hi, pgl_get g i hi]) _ (by kernel_rfl)

/-- A page's sum, named. -/
theorem S_pack (g : Nat → Nat) (hg : Bytes g) : ∃ X Y : Int, SRe g 512 = X ∧ SIm g 512 = Y ∧ (-2199023255040 ≤ X ∧ X ≤ 2199023255040) ∧ -2199023255040 ≤ Y ∧ Y ≤ 2199023255040 :=
  ⟨_, _, rfl, rfl, (S_bd g hg 512).1, (S_bd g hg 512).2⟩

theorem own_form {W : World} {base : Nat} {e : TypeId} {size n : Nat} {v : Value} {xs : List Value} (h : W.ownsRow base e size v n xs) (hn : 0 < n) :
    ∃ g cap, v = .slice (some ⟨g, 0, none⟩) n cap ∧ base ≤ g ∧ g < W.heap.size ∧ n ≤ cap := by
  rcases h.2 with ⟨_, h0⟩ | ⟨g, cap, cur, rfl, hb, hh, hc, _⟩
  · omega
  · refine ⟨g, cap, rfl, hb, ?_, hc⟩
    rcases Nat.lt_or_ge g W.heap.size with hlt | hge
    · exact hlt
    · rw [Array.getElem?_eq_none hge] at hh; cases hh

set_option maxHeartbeats 4000000 in
set_option maxRecDepth 100000 in
theorem digestTells_walk (A B C : Option Addr) (n m p c d f : Nat) (xs ys zs : List Value) (v : Nat) (w : World) (ha : Reads w w.heap.size 1 A n xs) (hb : Reads w w.heap.size 1 B m ys) (hc : Reads w w.heap.size 1 C p zs)
    (hx : IntsR xs) (hy : BytesR ys) (hv : v < 18446744073709551616) (hpf : p ≤ f) :
    Calls Try.prog 3 #[.slice A n c, .slice B m d, .slice C p f, .int .u64 v] w fun e w' => e = .returned (.bool true) ∧ Below w.heap.size w w' := by
  have HPg := Lib.hid (page_any A B n m c d xs ys w ha hb hx hy)
  clear ha hb hx hy
  obtain ⟨i0, hi0, hz0, hz1, hz2⟩ := info_parts Try.info5
  have hmask := mask32 v hv
  have hW := word_any v hv
  have HW := Lib.hid (fun W => (show Calls Try.prog 12 #[.int .u64 v] W fun e w' => e = .returned (.complex .f64 (F ((v : Int) % 4294967296)) (F ((v : Int) / 4294967296))) ∧ W = w' from hW W))
  have hv1 : (v : Int) ≤ 18446744073709551615 := by omega
  have hlo : 0 ≤ (v : Int) % 4294967296 ∧ (v : Int) % 4294967296 ≤ 4294967295 := by omega
  have hhi : 0 ≤ (v : Int) / 4294967296 ∧ (v : Int) / 4294967296 ≤ 4294967295 := by omega
  have ol := ord_self ((v : Int) % 4294967296) (by omega)
  have oh := ord_self ((v : Int) / 4294967296) (by omega)
  clear hW hv
  have hp0 : C = none → p = 0 := fun h => by
    rcases Nat.eq_zero_or_pos p with h0 | h0
    · exact h0
    · obtain ⟨ad, e, _⟩ := hc.2 h0
      rw [h] at e; cases e
  clear hc
  go_enter Try.func3, Try.ntmps3
  go_wp2_with fail
  refine HPg.out.mono ?_; rintro e w1 ⟨rfl, g0, hg0, hblk0, hb1⟩
  have HB0 := Lib.hid hblk0
  have HL0 := Lib.hid hb1
  clear hblk0 hb1
  go_wp2_with fail
  refine wp_append_any _ (.tmp 21) (.tmp 22) _ rfl w1.heap.size 5 i0 _ 1 1 Try.underlying23 hi0 hz0 hz1 hz2 rfl (by omega) (.slice (some ⟨w1.heap.size, 0, none⟩) 0 0) 0 [] rfl (World.ownsRow_made _ _ 0 (Nat.le_refl _) (by decide) rfl)
    (w1.heap.size) (some ⟨w.heap.size, 0, none⟩) 4096 4096 (pc g0).toList rfl (reads_blk (HB0.out.alloc _) HB0.out.lt) (pcl_one g0) (by decide) (by decide) (by simp) ?_
  intro v1 w2 hown1 hg1 hat1
  rw [Nat.zero_add, List.nil_append] at hown1
  obtain ⟨gq, cq, rfl, hq1, hq2⟩ := hown1.form (by decide)
  have HQ := Lib.hid hown1
  have HG1 := Lib.hid hg1
  clear hown1 hg1 hat1
  go_wp2_with fail
  refine wp_append_any _ (.tmp 23) (.tmp 24) _ rfl w1.heap.size 5 i0 _ 1 1 Try.underlying23 hi0 hz0 hz1 hz2 rfl (by omega) (.slice (some ⟨gq, 0, none⟩) 4096 cq) 4096 (pc g0).toList rfl (HQ.out.alloc _)
    (w2.heap.size + 1) (some ⟨w2.heap.size, 0, none⟩) 1 1 [.int .u8 165] rfl ⟨rfl, fun _ => ⟨_, rfl, by simp, ?d1⟩⟩ (by intro u hu; simp at hu; subst hu; rfl) (by decide) (by decide) ?d2 ?_
  case d1 =>
    intro j u hu
    have hj : j = 0 := by
      have := (List.getElem?_eq_some_iff.1 hu).1
      simp at this; exact this
    subst hj
    simp at hu
    subst hu
    exact World.cell?_alloc_at _ _ _ _ rfl
  case d2 =>
    have := HG1.out.size
    simp at this ⊢; omega
  intro v2 w3 hown2 hg2 hat2
  obtain ⟨g2, c2, rfl, hr1, hr2, hcap⟩ := own_form hown2 (by decide)
  have hpage2 : PageAt w3 g2 g0 := fun j hj => by
    rw [hown2.cellAt j (by omega), List.getElem?_append_left (by rw [pcl_len]; exact hj), Array.getElem?_toList, pc_get g0 j hj]
  have hlast : w3.cell? ⟨g2, 4096, none⟩ = some (.int .u8 165) := by
    rw [hown2.cellAt 4096 (by omega), List.getElem?_append_right (by rw [pcl_len]; exact Nat.le_refl _), pcl_len]; rfl
  have s0 := HL0.out.size
  have hb1 := HB0.out.lt
  have hblk3 : Blk w3 w.heap.size 5 (pc g0) :=
    (((HB0.out.alloc (.cells #[] 5)).grown HG1.out (by simp only [Value.ownBlock]; intro h; injection h; omega)).alloc (.cells #[.int .u8 165] 5)).grown hg2 (by simp only [Value.ownBlock]; intro h; injection h; omega)
  have hbw2 : Below w.heap.size w w2 := (HL0.out.alloc s0 _).grown HG1.out (by simp; omega) (by simp [Value.ownBlock]; omega)
  have hbw3 : Below w.heap.size w w3 := (hbw2.alloc hbw2.size _).grown hg2 (by have := hbw2.size; simp; omega) (by simp [Value.ownBlock]; omega)
  have hr3 : w.heap.size < w3.heap.size := hblk3.lt
  have HP2 := Lib.hid hpage2
  have HLa := Lib.hid hlast
  have HB3 := Lib.hid hblk3
  have HL3 := Lib.hid hbw3
  clear hown2 hg2 hat2 hpage2 hlast hblk3 hbw2 hbw3 hb1
  have hO1 := of_page g2 c2 g0 w3 HP2.out hg0
  have hO2 := refof_page w.heap.size 4096 g0 w3 (PageAt.of_blk HB3.out) hg0
  obtain ⟨X, Y, eX, eY, bX, bY⟩ := S_pack g0 hg0
  rw [eX, eY] at hO1 hO2
  clear eX eY
  have HO1 := Lib.hid hO1
  have HO2 := Lib.hid hO2
  have oX := ord_self X (by omega)
  have oY := ord_self Y (by omega)
  have HCl := Lib.hid (fun W => clean_any X Y W (by omega) (by omega))
  clear hO1 hO2 bX bY
  go_wp2_with fail
  refine HO1.out.mono ?_; rintro e w' ⟨rfl, rfl⟩
  go_wp2_with fail
  refine HO2.out.mono ?_; rintro e w' ⟨rfl, rfl⟩
  go_wp2_with fail
  all_goals
    refine (of_short C _ f _ (by omega)).mono ?_; rintro e w' ⟨rfl, rfl⟩
    go_wp2_with fail
    refine (told_any _).mono ?_; rintro e w5 ⟨rfl, hb5⟩
    have HB5 := Lib.hid hb5
    have cv1 := page_string (cap := 4096) (fun j hj => (hb5.cell (p := ⟨w.heap.size, j, none⟩) hr3).trans ((PageAt.of_blk HB3.out) j hj) : PageAt w5 w.heap.size g0)
    have cv2 := page_string (cap := c2) (fun j hj => (hb5.cell (p := ⟨g2, j, none⟩) hr2).trans (HP2.out j hj) : PageAt w5 g2 g0)
    have hl5 := (hb5.cell (p := ⟨g2, 4096, none⟩) hr2).trans HLa.out
    clear hb5
    generalize strOfNums (pgl g0) = st at cv1 cv2
    go_wp2_with fail
    refine (HCl.out _).mono ?_; rintro e w' ⟨rfl, rfl⟩
    go_wp2_with fail
    refine (HW.out _).mono ?_; rintro e w' ⟨rfl, rfl⟩
    go_wp2_with fail
    refine (make_any _ _ _).mono ?_; rintro e w' ⟨rfl, rfl⟩
    go_wp2
    go_ret
    exact ⟨rfl, HL3.out.trans (HB5.out.mono (Nat.le_of_lt hr3))⟩

theorem word_of {i : Int} (hw : (Lit.int .u64 i).wf = true) : ∃ k : Nat, i = (k : Int) ∧ k < 18446744073709551616 := by
  have hb : 0 ≤ i ∧ i ≤ 18446744073709551615 := by
    have h1 : IntKind.u64.min = 0 := by decide +kernel
    have h2 : IntKind.u64.max = 18446744073709551615 := by decide +kernel
    simp only [Lit.wf, h1, h2, Bool.and_eq_true, decide_eq_true_eq] at hw
    exact hw
  exact ⟨i.toNat, by rw [Int.toNat_of_nonneg hb.1], by omega⟩

end Go.Proofs.Yteliehgndimhjaa
