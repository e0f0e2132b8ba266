/- The walk of the statement LedgerOwners: it returns true. -/
import Derived.Test.YtibklcjjdnhkdaaL11b
import Derived.Test.YtibklcjjdnhkdaaFlo
import Derived.Test.YtibklcjjdnhkdaaRows3
namespace Go.Proofs.Ytibklcjjdnhkdaa
open Go.RowKit Mf Flo

/-- Cells that are all ints. -/
def IntsR (xs : List Value) : Prop := ∀ u ∈ xs, ∃ i, u = .int .i64 i ∧ (Lit.int .i64 i).wf = true

theorem tmod_bd3 (a : Int) (n : Int) (h : 0 < n) : -n < a.tmod n ∧ a.tmod n < n := by
  have h' : (a.tmod n).natAbs < n.natAbs := by
    rw [Int.natAbs_tmod]; exact Nat.mod_lt _ (by omega)
  omega

theorem add_field (a : Addr) (q j : Nat) (hj : j ≠ 0) : a.add (q + j) = ⟨(a.add q).block, (a.add q).off + j, none⟩ := by
  rw [← Go.Deep.add_add]
  show (a.add q).add j = _
  unfold Addr.add
  rw [if_neg hj]

theorem s_grown' {w w' : World} {g mb : Nat} {u v : Value} (h : w.cell? ⟨g, 0, none⟩ = some u ∧ w.cell? ⟨g, 1, none⟩ = some v) (hg : w.grownBy w' (some mb)) (hne : mb ≠ g) : w'.cell? ⟨g, 0, none⟩ = some u ∧ w'.cell? ⟨g, 1, none⟩ = some v := by
  have hlt : g < w.heap.size := block_lt_of_cell h.1
  have e := hg.block g hlt (fun e => hne (by injection e with e; exact e.symm))
  exact ⟨(World.cell?_of_block (w := w) e).trans h.1, (World.cell?_of_block (w := w) e).trans h.2⟩

theorem s_below' {w w' : World} {g : Nat} {u v : Value} (h : w.cell? ⟨g, 0, none⟩ = some u ∧ w.cell? ⟨g, 1, none⟩ = some v) (hb : Below w.heap.size w w') : w'.cell? ⟨g, 0, none⟩ = some u ∧ w'.cell? ⟨g, 1, none⟩ = some v := by
  have hlt : g < w.heap.size := block_lt_of_cell h.1
  exact ⟨(hb.cell (p := ⟨g, 0, none⟩) hlt).trans h.1, (hb.cell (p := ⟨g, 1, none⟩) hlt).trans h.2⟩

theorem good0 : Good (0, 0) := ⟨by decide, by decide, by decide⟩

set_option maxRecDepth 100000 in
set_option maxHeartbeats 4000000 in
theorem ledgerOwners_walk (a0 : Int) (A : Option Addr) (m c : Nat) (xs : List Value) (w : World) (hr : Reads w w.heap.size 3 A m xs) (hx : IntsR xs) (_ : m ≤ maxLen) :
    Calls Try.prog 5 #[.int .i64 a0, .slice A m c] w fun e w' => e = .returned (.bool true) ∧ Below w.heap.size w w' := by
  have hmask : bits .and .i64 a0 31 = a0 % 32 := mask64 a0 5 (by omega)
  obtain ⟨n, hn⟩ : ∃ n, 1 + a0 % 32 % 20 = n := ⟨_, rfl⟩
  have bn : 1 ≤ n ∧ n ≤ 20 := by omega
  have HR := Lib.hid hr
  have HX := Lib.hid hx
  clear hr hx
  go_enter Try.func5, Try.ntmps5
  go_wp2_with fail
  refine (new_ok n _ (by omega) (by omega)).mono ?_; rintro e w1 ⟨rfl, h1, hb1⟩
  have H1 := Lib.hid h1
  have HB1 := Lib.hid hb1
  clear h1 hb1
  go_wp2_with fail
  go_loopw [7] (fun i wr => ∃ (t : Nat) (f : Int → Option (Int × Int)), i = .int .i64 t ∧ t ≤ 120 ∧ LedAt wr (w.heap.size + 1) w.heap.size t n f ∧ (∀ j, Good (ent f j)) ∧ Below w.heap.size w wr) (fun i _ => 120 - (intOf i).toNat)
  case atStart => exact ⟨0, _, rfl, by omega, H1.out, fun _ => good0, HB1.out⟩
  case round =>
    obtain ⟨t, f, rfl, ht, hled, hgood, hbel⟩ := hrel
    have HL := Lib.hid hled
    have HG := Lib.hid hgood
    have HB := Lib.hid hbel
    clear hled hgood hbel
    by_cases hlt : t < m ∧ t < 120
    · obtain ⟨l1, l2⟩ := hlt
      obtain ⟨ad, rfl, hadb, hcell⟩ := (HR.out.below HB.out).2 (by omega)
      have hlen := HR.out.1
      have hint : ∀ j, j < 3 → ∃ z, wr.cell? (ad.add (t * 3 + j)) = some (.int .i64 z) ∧ (Lit.int .i64 z).wf = true := fun j hj => by
        have hq : t * 3 + j < xs.length := by omega
        obtain ⟨z, hz, hwz⟩ := HX.out _ (List.getElem_mem hq)
        exact ⟨z, hcell _ _ (by rw [List.getElem?_eq_getElem hq, hz]), hwz⟩
      obtain ⟨fr, hc0, hw0⟩ := hint 0 (by decide)
      rw [Nat.add_zero] at hc0
      obtain ⟨ac, hc1, hw1⟩ := hint 1 (by decide)
      obtain ⟨pa, hc2, hw2⟩ := hint 2 (by decide)
      rw [add_field _ _ _ (by decide)] at hc1 hc2
      have hmm := tmod_bd3 fr n (by omega)
      have hm4 : bits .and .i64 pa 3 = pa % 4 := mask64 pa 2 (by omega)
      obtain ⟨k, hk⟩ : ∃ k, fr.tmod n % n = k := ⟨_, rfl⟩
      have hk' : (fr.tmod n + n) % n = k := by rw [Int.add_emod_right]; exact hk
      have bk : 0 ≤ k ∧ k < n := by rw [← hk]; exact ⟨Int.emod_nonneg _ (by omega), Int.emod_lt_of_pos _ (by omega)⟩
      obtain ⟨p, hp⟩ : ∃ p, pa % 4 = p := ⟨_, rfl⟩
      have hw : (Lit.int .i64 k).wf = true := by
        have := wf_small (k := k.toNat) (by omega)
        rw [show ((k.toNat : Nat) : Int) = k from by omega] at this
        exact this
      have hx0 := HG.out k
      have hadw : (ad.add (t * 3)).block < w.heap.size := by rw [block_of_add]; exact hadb
      clear hcell hint hlen
      go_wp2_with fail
      refine (get_any _ _ _ _ _ k _ HL.out hw).mono ?_; rintro e w2 ⟨rfl, hb2⟩
      have H2 := Lib.hid (HL.out.below hb2)
      have HB2 := Lib.hid (HB.out.trans (hb2.mono HB.out.size))
      have hc1' : (w2.alloc (.cells #[.int .i64 (ent f k).1, .int .i64 (ent f k).2] 36)).cell? ⟨(ad.add (t * 3)).block, (ad.add (t * 3)).off + 1, none⟩ = some (.int .i64 ac) := (((HB2.out.alloc HB2.out.size _).cell (p := ⟨(ad.add (t * 3)).block, (ad.add (t * 3)).off + 1, none⟩) hadw).trans (HB.out.cell (p := ⟨(ad.add (t * 3)).block, (ad.add (t * 3)).off + 1, none⟩) hadw).symm).trans hc1
      clear hb2
      go_wp2_with fail
      have H2a := H2.out.below ((Below.refl w2.heap.size w2).alloc (Nat.le_refl _) (.cells #[.int .i64 (ent f k).1, .int .i64 (ent f k).2] 36))
      have HB2a := Lib.hid (HB2.out.alloc HB2.out.size (.cells #[.int .i64 (ent f k).1, .int .i64 (ent f k).2] 36))
      have hS2 : (w2.alloc (.cells #[.int .i64 (ent f k).1, .int .i64 (ent f k).2] 36)).cell? ⟨w2.heap.size, 0, none⟩ = some (.int .i64 (ent f k).1) ∧ (w2.alloc (.cells #[.int .i64 (ent f k).1, .int .i64 (ent f k).2] 36)).cell? ⟨w2.heap.size, 1, none⟩ = some (.int .i64 (ent f k).2) := ⟨World.cell?_alloc_at _ _ _ _ (by simp), World.cell?_alloc_at _ _ _ _ (by simp)⟩
      refine (do_all _ _ t n f k ac p _ H2a hw (by unfold maxLen; omega)).mono ?_; rintro e w3 ⟨rfl, h3, hg3⟩
      have hS3 := s_grown' hS2 hg3 (by have := H2.out.lt; omega)
      have H3 := Lib.hid h3
      have HB3 := Lib.hid (HB2a.out.grown hg3 HB2a.out.size (fun _ e => by cases e; exact Nat.le_refl _))
      clear h3 hg3 hS2 H2a hc1'
      go_wp2_with fail
      refine (get_any _ _ _ _ _ k _ H3.out hw).mono ?_; rintro e w4 ⟨rfl, hb4⟩
      rw [ent_aft']
      have H4 := Lib.hid (H3.out.below hb4)
      have HB4 := Lib.hid (HB3.out.trans (hb4.mono HB3.out.size))
      have hS4 := s_below' hS3 hb4
      clear hb4 hS3
      have hS4a : ∀ o, (w4.alloc o).cell? ⟨w2.heap.size, 0, none⟩ = some (.int .i64 (ent f k).1) ∧ (w4.alloc o).cell? ⟨w2.heap.size, 1, none⟩ = some (.int .i64 (ent f k).2) := fun o => s_below' hS4 ((Below.refl _ _).alloc (Nat.le_refl _) o)
      obtain ⟨b0, b1⟩ := hS4a (.cells #[.int .i64 (nxt n (ent f k) k ac p).1, .int .i64 (nxt n (ent f k) k ac p).2] 36)
      clear hS4a hS4
      have hG' : ∀ j, Good (ent (aftS n f k ac p) j) := fun j => by
        by_cases hj : j = k
        · subst hj
          rw [ent_aft']
          by_cases hr : mayS n (ent f j) j ac p = 0
          · exact (owners hx0 hr).1
          · unfold nxt; rw [if_neg hr]; exact hx0
        · rw [ent_other hj]; exact HG.out j
      have HG' := Lib.hid hG'
      clear hG'
      have hfin : ∀ o, LedAt (w4.alloc o) (w.heap.size + 1) w.heap.size (t + 1) n (aftS n f k ac p) ∧ Below w.heap.size w (w4.alloc o) := fun o => ⟨H4.out.below ((Below.refl _ _).alloc (Nat.le_refl _) _), HB4.out.alloc HB4.out.size _⟩
      have FIN := Lib.hid hfin
      clear hfin
      by_cases hr : mayS n (ent f k) k ac p = 0
      · obtain ⟨o1, o2, o3, o4, o5⟩ := owners hx0 hr
        have HO := Lib.hid (And.intro o1 (And.intro o2 (And.intro o3 o4)))
        have HX0 := Lib.hid hx0
        clear o1 o2 o3 o4 o5 hx0
        rw [hr]
        clear hr
        generalize nxt n (ent f k) k ac p = y at *
        generalize ent f k = x at *
        obtain ⟨s, q⟩ := x
        obtain ⟨s', q'⟩ := y
        simp only at b0 b1
        have hs : s = 3 ∨ s = 4 ∨ s = 5 ∨ ((s == 3) = false ∧ (s == 4) = false ∧ (s == 5) = false) := by simp; omega
        have hs' : s' = 3 ∨ s' = 4 ∨ s' = 5 ∨ ((s' == 3) = false ∧ (s' == 4) = false ∧ (s' == 5) = false) := by simp; omega
        obtain ⟨⟨g1, g2, g3⟩, o2, o3, o4⟩ := HO.out
        simp only at g1 g2 g3 o2 o3 o4
        clear HO
        rcases hs with rfl | rfl | rfl | ⟨t3, t4, t5⟩
        · obtain rfl : s' = 2 := o4 rfl
          obtain rfl : q' = 0 := by
            by_cases h : q' = 0
            · exact h
            · exact absurd (g3.2 h) (by decide)
          clear o2 o3 o4 g1 g2 g3 hs'
          go_wp2
          exact ⟨⟨t + 1, _, by go_num, by omega, (FIN.out _).1, HG'.out, (FIN.out _).2⟩, by simp only [intOf]; omega⟩
        · obtain rfl : q = p := o2 (by decide)
          rcases hs' with rfl | rfl | rfl | ⟨u3, u4, u5⟩
          · have z0 : (q' != 0) = true := by simpa using g3.1 (by decide)
            have z1 : (q' == 0) = false := by simpa using g3.1 (by decide)
            clear o2 o3 o4 g1 g2 g3
            go_wp2
            exact ⟨⟨t + 1, _, by go_num, by omega, (FIN.out _).1, HG'.out, (FIN.out _).2⟩, by simp only [intOf]; omega⟩
          · obtain rfl : q' = q := o3 (by decide) (by decide)
            have z0 : (q' != 0) = true := by simpa using g3.1 (by decide)
            have z1 : (q' == 0) = false := by simpa using g3.1 (by decide)
            clear o2 o3 o4 g1 g2 g3
            go_wp2
            exact ⟨⟨t + 1, _, by go_num, by omega, (FIN.out _).1, HG'.out, (FIN.out _).2⟩, by simp only [intOf]; omega⟩
          · obtain rfl : q' = q := o3 (by decide) (by decide)
            have z0 : (q' != 0) = true := by simpa using g3.1 (by decide)
            have z1 : (q' == 0) = false := by simpa using g3.1 (by decide)
            clear o2 o3 o4 g1 g2 g3
            go_wp2
            exact ⟨⟨t + 1, _, by go_num, by omega, (FIN.out _).1, HG'.out, (FIN.out _).2⟩, by simp only [intOf]; omega⟩
          · obtain rfl : q' = 0 := by
              by_cases h : q' = 0
              · exact h
              · exact absurd (g3.2 h) (by simp at u3 u4 u5; omega)
            clear o2 o3 o4 g1 g2 g3
            go_wp2
            exact ⟨⟨t + 1, _, by go_num, by omega, (FIN.out _).1, HG'.out, (FIN.out _).2⟩, by simp only [intOf]; omega⟩
        · obtain rfl : q = p := o2 (by decide)
          rcases hs' with rfl | rfl | rfl | ⟨u3, u4, u5⟩
          · have z0 : (q' != 0) = true := by simpa using g3.1 (by decide)
            have z1 : (q' == 0) = false := by simpa using g3.1 (by decide)
            clear o2 o3 o4 g1 g2 g3
            go_wp2
            exact ⟨⟨t + 1, _, by go_num, by omega, (FIN.out _).1, HG'.out, (FIN.out _).2⟩, by simp only [intOf]; omega⟩
          · obtain rfl : q' = q := o3 (by decide) (by decide)
            have z0 : (q' != 0) = true := by simpa using g3.1 (by decide)
            have z1 : (q' == 0) = false := by simpa using g3.1 (by decide)
            clear o2 o3 o4 g1 g2 g3
            go_wp2
            exact ⟨⟨t + 1, _, by go_num, by omega, (FIN.out _).1, HG'.out, (FIN.out _).2⟩, by simp only [intOf]; omega⟩
          · obtain rfl : q' = q := o3 (by decide) (by decide)
            have z0 : (q' != 0) = true := by simpa using g3.1 (by decide)
            have z1 : (q' == 0) = false := by simpa using g3.1 (by decide)
            clear o2 o3 o4 g1 g2 g3
            go_wp2
            exact ⟨⟨t + 1, _, by go_num, by omega, (FIN.out _).1, HG'.out, (FIN.out _).2⟩, by simp only [intOf]; omega⟩
          · obtain rfl : q' = 0 := by
              by_cases h : q' = 0
              · exact h
              · exact absurd (g3.2 h) (by simp at u3 u4 u5; omega)
            clear o2 o3 o4 g1 g2 g3
            go_wp2
            exact ⟨⟨t + 1, _, by go_num, by omega, (FIN.out _).1, HG'.out, (FIN.out _).2⟩, by simp only [intOf]; omega⟩
        · rcases hs' with rfl | rfl | rfl | ⟨u3, u4, u5⟩
          · have z0 : (q' != 0) = true := by simpa using g3.1 (by decide)
            have z1 : (q' == 0) = false := by simpa using g3.1 (by decide)
            clear o2 o3 o4 g1 g2 g3
            go_wp2
            exact ⟨⟨t + 1, _, by go_num, by omega, (FIN.out _).1, HG'.out, (FIN.out _).2⟩, by simp only [intOf]; omega⟩
          · have z0 : (q' != 0) = true := by simpa using g3.1 (by decide)
            have z1 : (q' == 0) = false := by simpa using g3.1 (by decide)
            clear o2 o3 o4 g1 g2 g3
            go_wp2
            exact ⟨⟨t + 1, _, by go_num, by omega, (FIN.out _).1, HG'.out, (FIN.out _).2⟩, by simp only [intOf]; omega⟩
          · have z0 : (q' != 0) = true := by simpa using g3.1 (by decide)
            have z1 : (q' == 0) = false := by simpa using g3.1 (by decide)
            clear o2 o3 o4 g1 g2 g3
            go_wp2
            exact ⟨⟨t + 1, _, by go_num, by omega, (FIN.out _).1, HG'.out, (FIN.out _).2⟩, by simp only [intOf]; omega⟩
          · obtain rfl : q' = 0 := by
              by_cases h : q' = 0
              · exact h
              · exact absurd (g3.2 h) (by simp at u3 u4 u5; omega)
            clear o2 o3 o4 g1 g2 g3
            go_wp2
            exact ⟨⟨t + 1, _, by go_num, by omega, (FIN.out _).1, HG'.out, (FIN.out _).2⟩, by simp only [intOf]; omega⟩
      · have hrn : (mayS n (ent f k) k ac p == 0) = false := by simpa using hr
        have hnx : nxt n (ent f k) k ac p = ent f k := by unfold nxt; rw [if_neg hr]
        rw [hnx] at b0 b1
        rw [hnx]
        clear hnx hr
        generalize mayS n (ent f k) k ac p = r at *
        generalize ent f k = x at *
        obtain ⟨s, q⟩ := x
        simp only at b0 b1
        obtain ⟨g1, g2, g3⟩ := hx0
        simp only at g1 g2 g3
        have hs : s = 3 ∨ s = 4 ∨ s = 5 ∨ ((s == 3) = false ∧ (s == 4) = false ∧ (s == 5) = false) := by simp; omega
        rcases hs with rfl | rfl | rfl | ⟨t3, t4, t5⟩
        · have z0 : (q != 0) = true := by simpa using g3.1 (by decide)
          have z1 : (q == 0) = false := by simpa using g3.1 (by decide)
          clear g1 g2 g3
          go_wp2
          exact ⟨⟨t + 1, _, by go_num, by omega, (FIN.out _).1, HG'.out, (FIN.out _).2⟩, by simp only [intOf]; omega⟩
        · have z0 : (q != 0) = true := by simpa using g3.1 (by decide)
          have z1 : (q == 0) = false := by simpa using g3.1 (by decide)
          clear g1 g2 g3
          go_wp2
          exact ⟨⟨t + 1, _, by go_num, by omega, (FIN.out _).1, HG'.out, (FIN.out _).2⟩, by simp only [intOf]; omega⟩
        · have z0 : (q != 0) = true := by simpa using g3.1 (by decide)
          have z1 : (q == 0) = false := by simpa using g3.1 (by decide)
          clear g1 g2 g3
          go_wp2
          exact ⟨⟨t + 1, _, by go_num, by omega, (FIN.out _).1, HG'.out, (FIN.out _).2⟩, by simp only [intOf]; omega⟩
        · obtain rfl : q = 0 := by
            by_cases h : q = 0
            · exact h
            · exact absurd (g3.2 h) (by simp at t3 t4 t5; omega)
          clear g1 g2 g3
          go_wp2
          exact ⟨⟨t + 1, _, by go_num, by omega, (FIN.out _).1, HG'.out, (FIN.out _).2⟩, by simp only [intOf]; omega⟩
    · have hlt' : m ≤ t ∨ (t < m ∧ 120 ≤ t) := by omega
      clear hlt
      rcases hlt' with h | ⟨h1, h2⟩
      · go_wp2_with fail
        refine (told_any _).mono ?_; rintro e w9 ⟨rfl, hb9⟩
        go_wp2
        go_ret
        exact ⟨rfl, HB.out.trans (hb9.mono HB.out.size)⟩
      · go_wp2_with fail
        refine (told_any _).mono ?_; rintro e w9 ⟨rfl, hb9⟩
        go_wp2
        go_ret
        exact ⟨rfl, HB.out.trans (hb9.mono HB.out.size)⟩

end Go.Proofs.Ytibklcjjdnhkdaa
