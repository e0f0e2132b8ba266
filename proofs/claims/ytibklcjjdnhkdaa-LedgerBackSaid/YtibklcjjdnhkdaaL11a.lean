/- The walk of the statement LedgerBack: it returns true. -/
import Derived.Test.YtibklcjjdnhkdaaLedt
import Derived.Test.YtibklcjjdnhkdaaFlo
import Derived.Deep.RegionHeld3
namespace Go.Proofs.Ytibklcjjdnhkdaa
open Go.RowKit Mf Flo

theorem tmod_bd2 (a : Int) (n : Nat) (h : 0 < n) : -(n : Int) < a.tmod n ∧ a.tmod n < n := by
  have h : (a.tmod n).natAbs < n := by
    rw [Int.natAbs_tmod, Int.natAbs_natCast]; exact Nat.mod_lt _ h
  omega

theorem ent_aft {n : Int} {f : Int → Option (Int × Int)} {k act p : Int} (h : mayS n (ent f k) k act p = 0) : ent (aftS n f k act p) k = if (nowS (ent f k) act p).1 = 0 then (0, 0) else nowS (ent f k) act p := by
  unfold aftS
  rw [if_pos h]
  unfold putS
  show ((if k = k then _ else _ : Option (Int × Int))).getD (0, 0) = _
  rw [if_pos rfl]
  by_cases h0 : (nowS (ent f k) act p).1 = 0
  · rw [if_pos h0, if_pos h0]; rfl
  · rw [if_neg h0, if_neg h0]; rfl

theorem aft_other {n : Int} {f : Int → Option (Int × Int)} {k act p j : Int} (hj : j ≠ k) : aftS n f k act p j = f j := by
  unfold aftS
  by_cases h : mayS n (ent f k) k act p = 0
  · rw [if_pos h]; unfold putS; rw [if_neg hj]
  · rw [if_neg h]

theorem aft_free {n : Int} {f : Int → Option (Int × Int)} {k act p : Int} (h : mayS n (ent f k) k act p = 0) (h0 : (nowS (ent f k) act p).1 = 0) : aftS n f k act p k = none := by
  unfold aftS
  rw [if_pos h]
  unfold putS
  rw [if_pos rfl, if_pos h0]

def Fa (k a q : Int) := aftS 20 (fun _ => none) k a q
def Fb (k a q t p : Int) := aftS 20 (Fa k a q) k t p
def Fc (k a q t u p : Int) := aftS 20 (Fb k a q t p) k u p
def Fd (k a q t u p : Int) := aftS 20 (Fc k a q t u p) k 9 q

structure Chain (k a q t u p s1 q1 s2 q2 : Int) : Prop where
  a1 : mayS 20 (ent (fun _ => none) k) k a q = 0
  ea : ent (Fa k a q) k = (s1, q1)
  a2 : mayS 20 (s1, q1) k t p = 0
  eb : ent (Fb k a q t p) k = (s2, q2)
  a3 : mayS 20 (s2, q2) k u p = 0
  ec : ent (Fc k a q t u p) k = (s1, q1)
  a4 : mayS 20 (s1, q1) k 9 q = 0
  ed : ent (Fd k a q t u p) k = (0, 0)
  z : Fd k a q t u p = fun _ => none

theorem chain_of {k a q t u p s1 q1 s2 q2 : Int} (a1 : mayS 20 (0, 0) k a q = 0) (n1 : nowS (0, 0) a q = (s1, q1)) (a2 : mayS 20 (s1, q1) k t p = 0) (n2 : nowS (s1, q1) t p = (s2, q2)) (a3 : mayS 20 (s2, q2) k u p = 0) (n3 : nowS (s2, q2) u p = (s1, q1))
    (a4 : mayS 20 (s1, q1) k 9 q = 0) (n4 : (nowS (s1, q1) 9 q).1 = 0) (h1 : s1 ≠ 0) (h2 : s2 ≠ 0) : Chain k a q t u p s1 q1 s2 q2 := by
  have e0 : ent (fun _ => none) k = (0, 0) := rfl
  have ea : ent (Fa k a q) k = (s1, q1) := by
    unfold Fa; rw [ent_aft (by rw [e0]; exact a1), e0, n1, if_neg h1]
  have eb : ent (Fb k a q t p) k = (s2, q2) := by
    unfold Fb; rw [ent_aft (by rw [ea]; exact a2), ea, n2, if_neg h2]
  have ec : ent (Fc k a q t u p) k = (s1, q1) := by
    unfold Fc; rw [ent_aft (by rw [eb]; exact a3), eb, n3, if_neg h1]
  have hz : Fd k a q t u p = fun _ => none := by
    funext j
    by_cases hj : j = k
    · subst hj
      unfold Fd
      exact aft_free (by rw [ec]; exact a4) (by rw [ec]; exact n4)
    · unfold Fd Fc Fb Fa
      rw [aft_other hj, aft_other hj, aft_other hj, aft_other hj]
  exact ⟨by rw [e0]; exact a1, ea, a2, eb, a3, ec, a4, by rw [hz]; rfl, hz⟩

theorem may_ok {n frame act party : Int} {x : Int × Int} (hf : 0 ≤ frame ∧ frame < n) (ha : 1 ≤ act ∧ act ≤ 10) {m : Mv} (hr : fnd act x.1 = (m, true)) (hp : if (m.of_ || m.for_) = true then 1 ≤ party ∧ party ≤ 255 else party = 0) (ho : m.of_ = true → x.2 = party) : mayS n x frame act party = 0 := by
  unfold mayS
  rw [if_neg (by omega), if_neg (by omega), hr]
  rw [if_neg (by simp)]
  by_cases h : (m.of_ || m.for_) = true
  · rw [if_pos h] at hp
    rw [if_pos h, if_neg (by omega), if_neg (by simp), if_neg (by rintro ⟨h1, h2⟩; exact h2 (ho h1))]
  · rw [if_neg h] at hp
    rw [if_neg h, if_neg (by simp [hp]), if_neg (by simp)]

theorem chain0 {k p : Int} (hk : 0 ≤ k ∧ k < 20) (hp : 1 ≤ p ∧ p ≤ 255) : Chain k 3 p 6 7 p 4 p 5 p :=
  chain_of (may_ok hk (by decide) (m := ⟨0, 4, false, true⟩) rfl hp (fun h => by cases h)) rfl (may_ok hk (by decide) (m := ⟨4, 5, true, true⟩) rfl hp (fun _ => rfl)) rfl (may_ok hk (by decide) (m := ⟨5, 4, true, true⟩) rfl hp (fun _ => rfl)) rfl
    (may_ok hk (by decide) (m := ⟨4, 0, true, false⟩) rfl hp (fun _ => rfl)) rfl (by decide) (by decide)

theorem chain1 {k p : Int} (hk : 0 ≤ k ∧ k < 20) (hp : 1 ≤ p ∧ p ≤ 255) : Chain k 2 0 4 5 p 2 0 3 p :=
  chain_of (may_ok hk (by decide) (m := ⟨0, 2, false, false⟩) rfl rfl (fun h => by cases h)) rfl (may_ok hk (by decide) (m := ⟨2, 3, false, true⟩) rfl hp (fun h => by cases h)) rfl (may_ok hk (by decide) (m := ⟨3, 2, true, false⟩) rfl hp (fun _ => rfl)) rfl
    (may_ok hk (by decide) (m := ⟨2, 0, false, false⟩) rfl rfl (fun h => by cases h)) rfl (by decide) (by decide)

theorem chain2 {k p : Int} (hk : 0 ≤ k ∧ k < 20) (hp : 1 ≤ p ∧ p ≤ 255) : Chain k 3 p 8 10 p 4 p 6 0 :=
  chain_of (may_ok hk (by decide) (m := ⟨0, 4, false, true⟩) rfl hp (fun h => by cases h)) rfl (may_ok hk (by decide) (m := ⟨4, 6, true, false⟩) rfl hp (fun _ => rfl)) rfl (may_ok hk (by decide) (m := ⟨6, 4, false, true⟩) rfl hp (fun h => by cases h)) rfl
    (may_ok hk (by decide) (m := ⟨4, 0, true, false⟩) rfl hp (fun _ => rfl)) rfl (by decide) (by decide)

theorem s_grown {w w' : World} {g mb : Nat} {u v : Value} (h : w.cell? ⟨g, 0, none⟩ = some u ∧ w.cell? ⟨g, 1, none⟩ = some v) (hg : w.grownBy w' (some mb)) (hne : mb ≠ g) : w'.cell? ⟨g, 0, none⟩ = some u ∧ w'.cell? ⟨g, 1, none⟩ = some v := by
  have hlt : g < w.heap.size := block_lt_of_cell h.1
  have e := hg.block g hlt (fun e => hne (by injection e with e; exact e.symm))
  exact ⟨(World.cell?_of_block (w := w) e).trans h.1, (World.cell?_of_block (w := w) e).trans h.2⟩

theorem s_below {w w' : World} {g B : Nat} {u v : Value} (h : w.cell? ⟨g, 0, none⟩ = some u ∧ w.cell? ⟨g, 1, none⟩ = some v) (hb : Below w.heap.size w w') (_ : B ≤ w.heap.size) : w'.cell? ⟨g, 0, none⟩ = some u ∧ w'.cell? ⟨g, 1, none⟩ = some v := by
  have hlt : g < w.heap.size := block_lt_of_cell h.1
  exact ⟨(hb.cell (p := ⟨g, 0, none⟩) hlt).trans h.1, (hb.cell (p := ⟨g, 1, none⟩) hlt).trans h.2⟩

theorem cnt20 : cntF 20 (fun _ => none) 0 0 = 20 := by decide +kernel

set_option maxHeartbeats 4000000 in
theorem ledgerBack_walk (a0 a1 a2 : Int) (w : World) : Calls Try.prog 6 #[.int .i64 a0, .int .i64 a1, .int .i64 a2] w fun e w' => e = .returned (.bool true) ∧ Below w.heap.size w w' := by
  have hm1 : -20 < a0.tmod 20 ∧ a0.tmod 20 < 20 := tmod_bd2 a0 20 (by decide)
  have hm2 : -3 < a2.tmod 3 ∧ a2.tmod 3 < 3 := tmod_bd2 a2 3 (by decide)
  have hmask : bits .and .i64 a1 255 = a1 % 256 := mask64 a1 8 (by omega)
  obtain ⟨k, hk⟩ : ∃ k, a0.tmod 20 % 20 = k := ⟨_, rfl⟩
  obtain ⟨p, hp⟩ : ∃ p, 1 + a1 % 256 % 255 = p := ⟨_, rfl⟩
  have bk : 0 ≤ k ∧ k < 20 := by omega
  have bp : 1 ≤ p ∧ p ≤ 255 := by omega
  have hw : (Lit.int .i64 k).wf = true := by
    have := wf_small (k := k.toNat) (by omega)
    rw [show ((k.toNat : Nat) : Int) = k from by omega] at this
    exact this
  have hr : a2.tmod 3 % 3 = 0 ∨ a2.tmod 3 % 3 = 1 ∨ a2.tmod 3 % 3 = 2 := by omega
  rcases hr with hr | hr | hr
  · have C := Lib.hid (chain0 bk bp)
    go_enter Try.func6, Try.ntmps6
    go_wp2_with fail
    refine (new_ok 20 _ (by decide) (by decide)).mono ?_; rintro e w1 ⟨rfl, h1, hb1⟩
    have H1 := Lib.hid h1
    have HB1 := Lib.hid hb1
    clear h1 hb1
    go_wp2_with fail
    refine (do_any _ _ _ _ _ k 3 p _ H1.out hw (by decide) w.heap.size (by omega) (by omega)).mono ?_; rintro e w2 ⟨rfl, h2, hb2⟩
    rw [C.out.a1]
    have H2 := Lib.hid (show LedAt w2 (w.heap.size + 1) w.heap.size 1 20 (Fa k 3 p) from h2)
    have HB2 := Lib.hid (HB1.out.trans hb2)
    clear h2 hb2
    go_wp2_with fail
    refine (get_any _ _ _ _ _ k _ H2.out hw).mono ?_; rintro e w3 ⟨rfl, hb3⟩
    rw [C.out.ea]
    have H3 := Lib.hid (H2.out.below hb3)
    have HB3 := Lib.hid (HB2.out.trans (hb3.mono HB2.out.size))
    clear hb3
    go_wp2_with fail
    have hg4 : ∀ o, Below w3.heap.size w3 (w3.alloc o).drew := fun o => ((Below.refl _ _).alloc (Nat.le_refl _) _).drew
    have H4 := Lib.hid (H3.out.below (hg4 (.cells #[.int .i64 4, .int .i64 p] 36)))
    have HB4 := Lib.hid (HB3.out.trans ((hg4 (.cells #[.int .i64 4, .int .i64 p] 36)).mono HB3.out.size))
    have hS4 : (w3.alloc (.cells #[.int .i64 4, .int .i64 p] 36)).drew.cell? ⟨w3.heap.size, 0, none⟩ = some (.int .i64 4) ∧ (w3.alloc (.cells #[.int .i64 4, .int .i64 p] 36)).drew.cell? ⟨w3.heap.size, 1, none⟩ = some (.int .i64 p) := ⟨World.cell?_alloc_at _ _ _ _ (by simp), World.cell?_alloc_at _ _ _ _ (by simp)⟩
    have hgt : w.heap.size + 1 < w3.heap.size := H3.out.lt
    clear hg4
    go_region_held3 (fun w' => w'.cell? ⟨w3.heap.size, 0, none⟩ = some (.int .i64 4) ∧ w'.cell? ⟨w3.heap.size, 1, none⟩ = some (.int .i64 p))
      (first | exact hS9 | exact hS8 | exact hS7 | exact hS6 | exact hS5 | exact hS4 | go_keep)
      (first
        | (go_at_call 12; ((with_reducible refine (do_all _ _ 1 20 (Fa k 3 p) k 6 p _ H4.out hw (by decide)).mono ?_); rintro e w5 ⟨rfl, h5, hg5⟩; rw [C.out.ea, C.out.a2]; have H5 := Lib.hid (show LedAt w5 (w.heap.size + 1) w.heap.size 2 20 (Fb k 3 p 6 p) from h5); have HB5 := Lib.hid (HB4.out.grown hg5 HB4.out.size (fun _ e => by cases e; exact Nat.le_refl _)); have hS5 := s_grown hS4 hg5 (by omega); have hZ5 := hg5.size; clear h5 hg5))
        | (go_at_call 14; ((with_reducible refine (get_any _ _ 2 20 (Fb k 3 p 6 p) k _ H5.out hw).mono ?_); rintro e w6 ⟨rfl, hb6⟩; rw [C.out.eb]; have H6 := Lib.hid (H5.out.below hb6); have HB6 := Lib.hid (HB5.out.trans (hb6.mono HB5.out.size)); have hS6 := s_below hS5 hb6 hZ5; have hZ6 := Nat.le_trans hZ5 hb6.size; clear hb6))
        | (go_at_call 10; ((with_reducible refine (may_any _ _ 2 20 (Fb k 3 p 6 p) k 7 p _ H6.out hw).mono ?_); rintro e w7 ⟨rfl, hb7⟩; rw [C.out.eb, C.out.a3]; have H7 := Lib.hid (H6.out.below hb7); have HB7 := Lib.hid (HB6.out.trans (hb7.mono HB6.out.size)); have hS7 := s_below hS6 hb7 hZ6; have hZ7 := Nat.le_trans hZ6 hb7.size; clear hb7))
        | (go_at_call 12; ((with_reducible refine (do_all _ _ 2 20 (Fb k 3 p 6 p) k 7 p _ H7.out hw (by decide)).mono ?_); rintro e w8 ⟨rfl, h8, hg8⟩; rw [C.out.eb, C.out.a3]; have H8 := Lib.hid (show LedAt w8 (w.heap.size + 1) w.heap.size 3 20 (Fc k 3 p 6 7 p) from h8); have HB8 := Lib.hid (HB7.out.grown hg8 HB7.out.size (fun _ e => by cases e; exact Nat.le_refl _)); have hS8 := s_grown hS7 hg8 (by omega); have hZ8 := Nat.le_trans hZ7 hg8.size; clear h8 hg8))
        | (go_at_call 14; ((with_reducible refine (get_any _ _ 3 20 (Fc k 3 p 6 7 p) k _ H8.out hw).mono ?_); rintro e w9 ⟨rfl, hb9⟩; rw [C.out.ec]; have H9 := Lib.hid (H8.out.below hb9); have HB9 := Lib.hid (HB8.out.trans (hb9.mono HB8.out.size)); have hS9 := s_below hS8 hb9 hZ8; clear hb9)))
    go_wp2_with fail
    refine (told_any _).mono ?_; rintro e w10 ⟨rfl, hb10⟩
    have H10 := Lib.hid (H9.out.below hb10)
    have HB10 := Lib.hid (HB9.out.trans (hb10.mono HB9.out.size))
    clear hb10
    go_wp2_with fail
    refine (do_all _ _ _ _ _ k 9 p _ H10.out hw (by decide)).mono ?_; rintro e w11 ⟨rfl, h11, hg11⟩
    rw [C.out.ec, C.out.a4]
    have H11 := Lib.hid (show LedAt w11 (w.heap.size + 1) w.heap.size 4 20 (Fd k 3 p 6 7 p) from h11)
    have HB11 := Lib.hid (HB10.out.grown hg11 HB10.out.size (fun _ e => by cases e; exact Nat.le_refl _))
    clear h11 hg11
    go_wp2_with fail
    refine (get_any _ _ _ _ _ k _ H11.out hw).mono ?_; rintro e w12 ⟨rfl, hb12⟩
    rw [C.out.ed]
    have h12 := H11.out.below hb12
    have HB12 := Lib.hid (HB11.out.trans (hb12.mono HB11.out.size))
    clear hb12
    rw [C.out.z] at h12
    obtain ⟨ks, hk1, hk2, hcnt⟩ := count_any _ _ _ _ _ 0 0 w12 h12 (by decide) (Inv.new 20).1
    rw [cntS_eq (by decide) hk1 hk2 (Inv.new 20).1, cnt20] at hcnt
    clear h12 hk1 hk2
    go_wp2_with fail
    refine hcnt.mono ?_; rintro e w13 ⟨rfl, hb13⟩
    have HB13 := Lib.hid (HB12.out.trans (hb13.mono HB12.out.size))
    clear hb13 hcnt
    go_wp2
    go_ret
    exact ⟨rfl, HB13.out⟩
  · have C := Lib.hid (chain1 bk bp)
    go_enter Try.func6, Try.ntmps6
    go_wp2_with fail
    refine (new_ok 20 _ (by decide) (by decide)).mono ?_; rintro e w1 ⟨rfl, h1, hb1⟩
    have H1 := Lib.hid h1
    have HB1 := Lib.hid hb1
    clear h1 hb1
    go_wp2_with fail
    refine (do_any _ _ _ _ _ k 2 0 _ H1.out hw (by decide) w.heap.size (by omega) (by omega)).mono ?_; rintro e w2 ⟨rfl, h2, hb2⟩
    rw [C.out.a1]
    have H2 := Lib.hid (show LedAt w2 (w.heap.size + 1) w.heap.size 1 20 (Fa k 2 0) from h2)
    have HB2 := Lib.hid (HB1.out.trans hb2)
    clear h2 hb2
    go_wp2_with fail
    refine (get_any _ _ _ _ _ k _ H2.out hw).mono ?_; rintro e w3 ⟨rfl, hb3⟩
    rw [C.out.ea]
    have H3 := Lib.hid (H2.out.below hb3)
    have HB3 := Lib.hid (HB2.out.trans (hb3.mono HB2.out.size))
    clear hb3
    go_wp2_with fail
    have hg4 : ∀ o, Below w3.heap.size w3 (w3.alloc o).drew := fun o => ((Below.refl _ _).alloc (Nat.le_refl _) _).drew
    have H4 := Lib.hid (H3.out.below (hg4 (.cells #[.int .i64 2, .int .i64 0] 36)))
    have HB4 := Lib.hid (HB3.out.trans ((hg4 (.cells #[.int .i64 2, .int .i64 0] 36)).mono HB3.out.size))
    have hS4 : (w3.alloc (.cells #[.int .i64 2, .int .i64 0] 36)).drew.cell? ⟨w3.heap.size, 0, none⟩ = some (.int .i64 2) ∧ (w3.alloc (.cells #[.int .i64 2, .int .i64 0] 36)).drew.cell? ⟨w3.heap.size, 1, none⟩ = some (.int .i64 0) := ⟨World.cell?_alloc_at _ _ _ _ (by simp), World.cell?_alloc_at _ _ _ _ (by simp)⟩
    have hgt : w.heap.size + 1 < w3.heap.size := H3.out.lt
    clear hg4
    go_region_held3 (fun w' => w'.cell? ⟨w3.heap.size, 0, none⟩ = some (.int .i64 2) ∧ w'.cell? ⟨w3.heap.size, 1, none⟩ = some (.int .i64 0))
      (first | exact hS9 | exact hS8 | exact hS7 | exact hS6 | exact hS5 | exact hS4 | go_keep)
      (first
        | (go_at_call 12; ((with_reducible refine (do_all _ _ 1 20 (Fa k 2 0) k 4 p _ H4.out hw (by decide)).mono ?_); rintro e w5 ⟨rfl, h5, hg5⟩; rw [C.out.ea, C.out.a2]; have H5 := Lib.hid (show LedAt w5 (w.heap.size + 1) w.heap.size 2 20 (Fb k 2 0 4 p) from h5); have HB5 := Lib.hid (HB4.out.grown hg5 HB4.out.size (fun _ e => by cases e; exact Nat.le_refl _)); have hS5 := s_grown hS4 hg5 (by omega); have hZ5 := hg5.size; clear h5 hg5))
        | (go_at_call 14; ((with_reducible refine (get_any _ _ 2 20 (Fb k 2 0 4 p) k _ H5.out hw).mono ?_); rintro e w6 ⟨rfl, hb6⟩; rw [C.out.eb]; have H6 := Lib.hid (H5.out.below hb6); have HB6 := Lib.hid (HB5.out.trans (hb6.mono HB5.out.size)); have hS6 := s_below hS5 hb6 hZ5; have hZ6 := Nat.le_trans hZ5 hb6.size; clear hb6))
        | (go_at_call 10; ((with_reducible refine (may_any _ _ 2 20 (Fb k 2 0 4 p) k 5 p _ H6.out hw).mono ?_); rintro e w7 ⟨rfl, hb7⟩; rw [C.out.eb, C.out.a3]; have H7 := Lib.hid (H6.out.below hb7); have HB7 := Lib.hid (HB6.out.trans (hb7.mono HB6.out.size)); have hS7 := s_below hS6 hb7 hZ6; have hZ7 := Nat.le_trans hZ6 hb7.size; clear hb7))
        | (go_at_call 12; ((with_reducible refine (do_all _ _ 2 20 (Fb k 2 0 4 p) k 5 p _ H7.out hw (by decide)).mono ?_); rintro e w8 ⟨rfl, h8, hg8⟩; rw [C.out.eb, C.out.a3]; have H8 := Lib.hid (show LedAt w8 (w.heap.size + 1) w.heap.size 3 20 (Fc k 2 0 4 5 p) from h8); have HB8 := Lib.hid (HB7.out.grown hg8 HB7.out.size (fun _ e => by cases e; exact Nat.le_refl _)); have hS8 := s_grown hS7 hg8 (by omega); have hZ8 := Nat.le_trans hZ7 hg8.size; clear h8 hg8))
        | (go_at_call 14; ((with_reducible refine (get_any _ _ 3 20 (Fc k 2 0 4 5 p) k _ H8.out hw).mono ?_); rintro e w9 ⟨rfl, hb9⟩; rw [C.out.ec]; have H9 := Lib.hid (H8.out.below hb9); have HB9 := Lib.hid (HB8.out.trans (hb9.mono HB8.out.size)); have hS9 := s_below hS8 hb9 hZ8; clear hb9)))
    go_wp2_with fail
    refine (told_any _).mono ?_; rintro e w10 ⟨rfl, hb10⟩
    have H10 := Lib.hid (H9.out.below hb10)
    have HB10 := Lib.hid (HB9.out.trans (hb10.mono HB9.out.size))
    clear hb10
    go_wp2_with fail
    refine (do_all _ _ _ _ _ k 9 0 _ H10.out hw (by decide)).mono ?_; rintro e w11 ⟨rfl, h11, hg11⟩
    rw [C.out.ec, C.out.a4]
    have H11 := Lib.hid (show LedAt w11 (w.heap.size + 1) w.heap.size 4 20 (Fd k 2 0 4 5 p) from h11)
    have HB11 := Lib.hid (HB10.out.grown hg11 HB10.out.size (fun _ e => by cases e; exact Nat.le_refl _))
    clear h11 hg11
    go_wp2_with fail
    refine (get_any _ _ _ _ _ k _ H11.out hw).mono ?_; rintro e w12 ⟨rfl, hb12⟩
    rw [C.out.ed]
    have h12 := H11.out.below hb12
    have HB12 := Lib.hid (HB11.out.trans (hb12.mono HB11.out.size))
    clear hb12
    rw [C.out.z] at h12
    obtain ⟨ks, hk1, hk2, hcnt⟩ := count_any _ _ _ _ _ 0 0 w12 h12 (by decide) (Inv.new 20).1
    rw [cntS_eq (by decide) hk1 hk2 (Inv.new 20).1, cnt20] at hcnt
    clear h12 hk1 hk2
    go_wp2_with fail
    refine hcnt.mono ?_; rintro e w13 ⟨rfl, hb13⟩
    have HB13 := Lib.hid (HB12.out.trans (hb13.mono HB12.out.size))
    clear hb13 hcnt
    go_wp2
    go_ret
    exact ⟨rfl, HB13.out⟩
  · have C := Lib.hid (chain2 bk bp)
    go_enter Try.func6, Try.ntmps6
    go_wp2_with fail
    refine (new_ok 20 _ (by decide) (by decide)).mono ?_; rintro e w1 ⟨rfl, h1, hb1⟩
    have H1 := Lib.hid h1
    have HB1 := Lib.hid hb1
    clear h1 hb1
    go_wp2_with fail
    refine (do_any _ _ _ _ _ k 3 p _ H1.out hw (by decide) w.heap.size (by omega) (by omega)).mono ?_; rintro e w2 ⟨rfl, h2, hb2⟩
    rw [C.out.a1]
    have H2 := Lib.hid (show LedAt w2 (w.heap.size + 1) w.heap.size 1 20 (Fa k 3 p) from h2)
    have HB2 := Lib.hid (HB1.out.trans hb2)
    clear h2 hb2
    go_wp2_with fail
    refine (get_any _ _ _ _ _ k _ H2.out hw).mono ?_; rintro e w3 ⟨rfl, hb3⟩
    rw [C.out.ea]
    have H3 := Lib.hid (H2.out.below hb3)
    have HB3 := Lib.hid (HB2.out.trans (hb3.mono HB2.out.size))
    clear hb3
    go_wp2_with fail
    have hg4 : ∀ o, Below w3.heap.size w3 (w3.alloc o).drew := fun o => ((Below.refl _ _).alloc (Nat.le_refl _) _).drew
    have H4 := Lib.hid (H3.out.below (hg4 (.cells #[.int .i64 4, .int .i64 p] 36)))
    have HB4 := Lib.hid (HB3.out.trans ((hg4 (.cells #[.int .i64 4, .int .i64 p] 36)).mono HB3.out.size))
    have hS4 : (w3.alloc (.cells #[.int .i64 4, .int .i64 p] 36)).drew.cell? ⟨w3.heap.size, 0, none⟩ = some (.int .i64 4) ∧ (w3.alloc (.cells #[.int .i64 4, .int .i64 p] 36)).drew.cell? ⟨w3.heap.size, 1, none⟩ = some (.int .i64 p) := ⟨World.cell?_alloc_at _ _ _ _ (by simp), World.cell?_alloc_at _ _ _ _ (by simp)⟩
    have hgt : w.heap.size + 1 < w3.heap.size := H3.out.lt
    clear hg4
    go_region_held3 (fun w' => w'.cell? ⟨w3.heap.size, 0, none⟩ = some (.int .i64 4) ∧ w'.cell? ⟨w3.heap.size, 1, none⟩ = some (.int .i64 p))
      (first | exact hS9 | exact hS8 | exact hS7 | exact hS6 | exact hS5 | exact hS4 | go_keep)
      (first
        | (go_at_call 12; ((with_reducible refine (do_all _ _ 1 20 (Fa k 3 p) k 8 p _ H4.out hw (by decide)).mono ?_); rintro e w5 ⟨rfl, h5, hg5⟩; rw [C.out.ea, C.out.a2]; have H5 := Lib.hid (show LedAt w5 (w.heap.size + 1) w.heap.size 2 20 (Fb k 3 p 8 p) from h5); have HB5 := Lib.hid (HB4.out.grown hg5 HB4.out.size (fun _ e => by cases e; exact Nat.le_refl _)); have hS5 := s_grown hS4 hg5 (by omega); have hZ5 := hg5.size; clear h5 hg5))
        | (go_at_call 14; ((with_reducible refine (get_any _ _ 2 20 (Fb k 3 p 8 p) k _ H5.out hw).mono ?_); rintro e w6 ⟨rfl, hb6⟩; rw [C.out.eb]; have H6 := Lib.hid (H5.out.below hb6); have HB6 := Lib.hid (HB5.out.trans (hb6.mono HB5.out.size)); have hS6 := s_below hS5 hb6 hZ5; have hZ6 := Nat.le_trans hZ5 hb6.size; clear hb6))
        | (go_at_call 10; ((with_reducible refine (may_any _ _ 2 20 (Fb k 3 p 8 p) k 10 p _ H6.out hw).mono ?_); rintro e w7 ⟨rfl, hb7⟩; rw [C.out.eb, C.out.a3]; have H7 := Lib.hid (H6.out.below hb7); have HB7 := Lib.hid (HB6.out.trans (hb7.mono HB6.out.size)); have hS7 := s_below hS6 hb7 hZ6; have hZ7 := Nat.le_trans hZ6 hb7.size; clear hb7))
        | (go_at_call 12; ((with_reducible refine (do_all _ _ 2 20 (Fb k 3 p 8 p) k 10 p _ H7.out hw (by decide)).mono ?_); rintro e w8 ⟨rfl, h8, hg8⟩; rw [C.out.eb, C.out.a3]; have H8 := Lib.hid (show LedAt w8 (w.heap.size + 1) w.heap.size 3 20 (Fc k 3 p 8 10 p) from h8); have HB8 := Lib.hid (HB7.out.grown hg8 HB7.out.size (fun _ e => by cases e; exact Nat.le_refl _)); have hS8 := s_grown hS7 hg8 (by omega); have hZ8 := Nat.le_trans hZ7 hg8.size; clear h8 hg8))
        | (go_at_call 14; ((with_reducible refine (get_any _ _ 3 20 (Fc k 3 p 8 10 p) k _ H8.out hw).mono ?_); rintro e w9 ⟨rfl, hb9⟩; rw [C.out.ec]; have H9 := Lib.hid (H8.out.below hb9); have HB9 := Lib.hid (HB8.out.trans (hb9.mono HB8.out.size)); have hS9 := s_below hS8 hb9 hZ8; clear hb9)))
    go_wp2_with fail
    refine (told_any _).mono ?_; rintro e w10 ⟨rfl, hb10⟩
    have H10 := Lib.hid (H9.out.below hb10)
    have HB10 := Lib.hid (HB9.out.trans (hb10.mono HB9.out.size))
    clear hb10
    go_wp2_with fail
    refine (do_all _ _ _ _ _ k 9 p _ H10.out hw (by decide)).mono ?_; rintro e w11 ⟨rfl, h11, hg11⟩
    rw [C.out.ec, C.out.a4]
    have H11 := Lib.hid (show LedAt w11 (w.heap.size + 1) w.heap.size 4 20 (Fd k 3 p 8 10 p) from h11)
    have HB11 := Lib.hid (HB10.out.grown hg11 HB10.out.size (fun _ e => by cases e; exact Nat.le_refl _))
    clear h11 hg11
    go_wp2_with fail
    refine (get_any _ _ _ _ _ k _ H11.out hw).mono ?_; rintro e w12 ⟨rfl, hb12⟩
    rw [C.out.ed]
    have h12 := H11.out.below hb12
    have HB12 := Lib.hid (HB11.out.trans (hb12.mono HB11.out.size))
    clear hb12
    rw [C.out.z] at h12
    obtain ⟨ks, hk1, hk2, hcnt⟩ := count_any _ _ _ _ _ 0 0 w12 h12 (by decide) (Inv.new 20).1
    rw [cntS_eq (by decide) hk1 hk2 (Inv.new 20).1, cnt20] at hcnt
    clear h12 hk1 hk2
    go_wp2_with fail
    refine hcnt.mono ?_; rintro e w13 ⟨rfl, hb13⟩
    have HB13 := Lib.hid (HB12.out.trans (hb13.mono HB12.out.size))
    clear hb13 hcnt
    go_wp2
    go_ret
    exact ⟨rfl, HB13.out⟩

end Go.Proofs.Ytibklcjjdnhkdaa
