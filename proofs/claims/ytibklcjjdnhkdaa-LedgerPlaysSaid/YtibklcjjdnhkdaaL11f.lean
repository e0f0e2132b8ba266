/- The walk of the statement LedgerPlays: it returns true. -/
import Derived.Test.YtibklcjjdnhkdaaLedr3
import Derived.Test.YtibklcjjdnhkdaaL11e
namespace Go.Proofs.Ytibklcjjdnhkdaa
open Go.RowKit Mf Flo

/-- What holds of the memory behind t rounds. -/
structure LS (w wr : World) (b mb rb B g t n : Nat) (f : Int → Option (Int × Int)) (ps : List (Int × Int)) : Prop where
  led : LedAt wr b mb t n f
  q : QAt wr rb B g n ps
  sim : Sim n ps f
  good : ∀ k, Good (ent f k)
  inv : Inv n f
  be : Below w.heap.size w wr

theorem LS.quiet {w wr w2 : World} {b mb rb B g t n : Nat} {f : Int → Option (Int × Int)} {ps : List (Int × Int)} (h : LS w wr b mb rb B g t n f ps) (hb : Below wr.heap.size wr w2) : LS w w2 b mb rb B g t n f ps :=
  ⟨h.led.below hb, h.q.below hb, h.sim, h.good, h.inv, h.be.trans (hb.mono h.be.size)⟩

theorem Inv.dom {n : Int} {f : Int → Option (Int × Int)} (h : Inv n f) : ∀ k, (f k).isSome = true → 0 ≤ k ∧ k < n := And.left h
theorem Inv.nz {n : Int} {f : Int → Option (Int × Int)} (h : Inv n f) : ∀ k x, f k = some x → x.1 ≠ 0 := And.right h

theorem own_slice {w : World} {base size n : Nat} {e : TypeId} {v : Value} {xs : List Value} (h : w.ownsRow base e size v n xs) : ∃ A c, v = .slice A n c := by
  rcases h.2 with ⟨rfl, rfl⟩ | ⟨g, cap, cur, rfl, _⟩
  · exact ⟨none, 0, rfl⟩
  · exact ⟨_, _, rfl⟩

theorem led_only {w w' : World} {b mb N : Nat} {n : Int} {f : Int → Option (Int × Int)} {S : Nat → Prop} (h : LedAt w b mb N n f) (ho : Only S w w') (hb : ¬ S b) (hmb : ¬ S mb) : LedAt w' b mb N n f :=
  ⟨(ho.cell (p := ⟨b, 0, none⟩) h.lt hb).trans h.c0, (ho.cell (p := ⟨b, 1, none⟩) h.lt hb).trans h.c1, h.m.only ho hmb, Nat.lt_of_lt_of_le h.lt ho.size⟩

def RelLP (w : World) (b mb rb B g n : Nat) (iv : Value) (wr : World) : Prop := ∃ (t : Nat) (f : Int → Option (Int × Int)) (ps : List (Int × Int)), iv = .int .i64 t ∧ t ≤ 100 ∧ LS w wr b mb rb B g t n f ps
def RelLQ (w : World) (b mb rb B g t n : Nat) (f : Int → Option (Int × Int)) (ps : List (Int × Int)) (sv : Value) (wr : World) : Prop := ∃ z : Int, sv = .int .i64 z ∧ -1 ≤ z ∧ z ≤ 8 ∧ LS w wr b mb rb B g t n f ps

theorem good_aft {n : Int} {f : Int → Option (Int × Int)} (h : ∀ k, Good (ent f k)) (k a p : Int) : ∀ j, Good (ent (aftS n f k a p) j) := fun i => by
  by_cases hi : i = k
  · subst hi
    rw [ent_aft']
    by_cases hr : mayS n (ent f i) i a p = 0
    · exact (owners (h i) hr).1
    · unfold nxt; rw [if_neg hr]; exact h i
  · rw [ent_other hi]; exact h i

set_option maxRecDepth 100000 in
set_option maxHeartbeats 4000000 in
theorem ledgerPlays_walk (a0 : Int) (A : Option Addr) (m c : Nat) (xs : List Value) (a2 a3 : Int) (w : World) (hr : Reads w w.heap.size 3 A m xs) (hx : IntsR xs) :
    Calls Try.prog 3 #[.int .i64 a0, .slice A m c, .int .i64 a2, .int .i64 a3] w fun e w' => e = .returned (.bool true) ∧ Below w.heap.size w w' := by
  have HR := Lib.hid hr
  have HX := Lib.hid hx
  clear hr hx
  by_cases hbig : 300 < a0 ∧ a0 ≤ 1048576
  · obtain ⟨b1, b2⟩ := hbig
    go_enter Try.func3, Try.ntmps3
    go_wp2_with fail
    refine (told_any _).mono ?_; rintro e w2 ⟨rfl, hb2⟩
    go_wp2
    go_ret
    exact ⟨rfl, hb2⟩
  by_cases hlow : a0 < 1
  · have b1 : ¬ 300 < a0 := by omega
    clear hbig
    go_enter Try.func3, Try.ntmps3
    go_wp2_with fail
    refine (new_no _ _ (by omega)).mono ?_; rintro e w1 ⟨rfl, rfl⟩
    go_wp2_with fail
    refine (rnew_no _ _ (by omega)).mono ?_; rintro e w1 ⟨rfl, rfl⟩
    go_wp2_with fail
    go_loopw [13] (fun i wr => i = .int .i64 0 ∧ wr = w) (fun _ _ => 0)
    case atStart => exact ⟨rfl, rfl⟩
    case round =>
      obtain ⟨rfl, rfl⟩ := hrel
      by_cases hm : 0 < m
      · go_wp2_with fail
        refine (told_any _).mono ?_; rintro e w2 ⟨rfl, hb2⟩
        go_wp2
        go_ret
        exact ⟨rfl, hb2⟩
      · go_wp2_with fail
        refine (told_any _).mono ?_; rintro e w2 ⟨rfl, hb2⟩
        go_wp2
        go_ret
        exact ⟨rfl, hb2⟩
  by_cases hhigh : 1048576 < a0
  · have b1 : 300 < a0 := by omega
    have b2 : ¬ a0 ≤ 1048576 := by omega
    clear hbig hlow
    go_enter Try.func3, Try.ntmps3
    go_wp2_with fail
    refine (new_no _ _ (by omega)).mono ?_; rintro e w1 ⟨rfl, rfl⟩
    go_wp2_with fail
    refine (rnew_no _ _ (by omega)).mono ?_; rintro e w1 ⟨rfl, rfl⟩
    go_wp2_with fail
    go_loopw [13] (fun i wr => i = .int .i64 0 ∧ wr = w) (fun _ _ => 0)
    case atStart => exact ⟨rfl, rfl⟩
    case round =>
      obtain ⟨rfl, rfl⟩ := hrel
      by_cases hm : 0 < m
      · go_wp2_with fail
        refine (told_any _).mono ?_; rintro e w2 ⟨rfl, hb2⟩
        go_wp2
        go_ret
        exact ⟨rfl, hb2⟩
      · go_wp2_with fail
        refine (told_any _).mono ?_; rintro e w2 ⟨rfl, hb2⟩
        go_wp2
        go_ret
        exact ⟨rfl, hb2⟩
  obtain ⟨n, hn⟩ : ∃ n : Nat, (n : Int) = a0 := ⟨a0.toNat, by omega⟩
  have bn : 1 ≤ n ∧ n ≤ 300 := by omega
  have b1 : ¬ 300 < a0 := by omega
  have HN := Lib.hid hn
  clear hbig hlow hhigh hn
  go_enter Try.func3, Try.ntmps3
  go_wp2_with fail
  refine (new_ok a0 _ (by have := HN.out; omega) (by have := HN.out; omega)).mono ?_; rintro e w1 ⟨rfl, h1, hb1⟩
  rw [← HN.out] at h1
  have H1 := Lib.hid h1
  have HB1 := Lib.hid hb1
  clear h1 hb1
  go_wp2_with fail
  refine (rnew_ok n a0 HN.out.symm _ bn).mono ?_; rintro e w2 ⟨rb, rfl, hrb, hq, hb2⟩
  have hlt1 : w.heap.size + 1 < w1.heap.size := H1.out.lt
  have HS2 : Hid (LS w w2 (w.heap.size + 1) w.heap.size rb w1.heap.size w1.heap.size 0 n (fun _ => none) (List.replicate n (0, 0))) := Lib.hid ⟨H1.out.below hb2, hq, sim_new n, fun _ => good0, Inv.new n, HB1.out.trans (hb2.mono HB1.out.size)⟩
  clear hq hb2
  go_wp2_with fail
  go_loopw [13] (RelLP w (w.heap.size + 1) w.heap.size rb w1.heap.size w1.heap.size n) (fun i _ => 100 - (intOf i).toNat)
  case atStart => exact ⟨0, _, _, rfl, by omega, HS2.out⟩
  case round =>
    obtain ⟨t, f, ps, rfl, ht, hls⟩ := hrel
    have HS := Lib.hid hls
    clear hls
    by_cases hlt : t < m ∧ t < 100
    · obtain ⟨l1, l2⟩ := hlt
      obtain ⟨ad, rfl, hadb, hcell⟩ := (HR.out.below HS.out.be).2 (by omega)
      have hlen := HR.out.1
      have hint : ∀ j, j < 3 → ∃ z, wr.cell? (ad.add (t * 3 + j)) = some (.int .i64 z) ∧ (Lit.int .i64 z).wf = true := fun j hj => by
        have hq : t * 3 + j < xs.length := by omega
        obtain ⟨z, hz, hwz⟩ := HX.out _ (List.getElem_mem hq)
        exact ⟨z, hcell _ _ (by rw [List.getElem?_eq_getElem hq, hz]), hwz⟩
      obtain ⟨fr, hc0, hw0⟩ := hint 0 (by decide)
      rw [Nat.add_zero] at hc0
      obtain ⟨ac, hc1, _⟩ := hint 1 (by decide)
      obtain ⟨pa, hc2, _⟩ := hint 2 (by decide)
      rw [add_field _ _ _ (by decide)] at hc1 hc2
      have hbo := (Below.refl wr.heap.size wr).alloc (Nat.le_refl _) (.cells #[.int .i64 fr, .int .i64 ac, .int .i64 pa] 32)
      have HS1 := Lib.hid (HS.out.quiet hbo)
      have HG1 := Lib.hid (Blk.new wr 32 #[.int .i64 fr, .int .i64 ac, .int .i64 pa])
      have hg6 : rb < wr.heap.size := HS.out.q.blk.lt
      clear hcell hint hlen hbo
      go_wp2_with fail
      clear hc0 hc1 hc2
      have HSd := Lib.hid (HS1.out.quiet (Below.refl _ _).drew)
      have HGd := Lib.hid HG1.out.drew
      have g0 := (HG1.out.cell 0).trans rfl
      have g1 := (HG1.out.cell 1).trans rfl
      have g2 := (HG1.out.cell 2).trans rfl
      refine wp_region_held_drew (S := (fun w' => w'.cell? ⟨wr.heap.size, 0, none⟩ = some (.int .i64 fr) ∧ w'.cell? ⟨wr.heap.size, 1, none⟩ = some (.int .i64 ac) ∧ w'.cell? ⟨wr.heap.size, 2, none⟩ = some (.int .i64 pa))) (by kernel_rfl) ?_ (fun hHeld => ?_)
      · exact ⟨g0, g1, g2⟩
      ((refine takeY 0 (v := ?_) rfl (by kernel_rfl) (by kernel_rfl) (by kernel_rfl) (fun _ _ _ h => h) (by rfl) (by assumption) ?_ ?_; rotate_left; · (intro w hSw; (try dsimp only at hSw); go_simp; (first | done | with_reducible rfl))))
      (try simp only [Act.put, List.setIfInBounds_toArray, List.set_cons_zero, List.set_cons_succ])
      ((refine takeY 1 (v := ?_) rfl (by kernel_rfl) (by kernel_rfl) (by kernel_rfl) (fun _ _ _ h => h) (by rfl) (by assumption) ?_ ?_; rotate_left; · (intro w hSw; (try dsimp only at hSw); go_simp; (first | done | with_reducible rfl))))
      (try simp only [Act.put, List.setIfInBounds_toArray, List.set_cons_zero, List.set_cons_succ])
      ((refine takeY 2 (v := ?_) rfl (by kernel_rfl) (by kernel_rfl) (by kernel_rfl) (fun _ _ _ h => h) (by rfl) (by assumption) ?_ ?_; rotate_left; · (intro w hSw; (try dsimp only at hSw); go_simp; (first | done | with_reducible rfl))))
      (try simp only [Act.put, List.setIfInBounds_toArray, List.set_cons_zero, List.set_cons_succ])
      ((refine takeY 3 (v := ?_) rfl (by kernel_rfl) (by kernel_rfl) (by kernel_rfl) (fun _ _ _ h => h) (by rfl) (by assumption) ?_ ?_; rotate_left; · (intro w hSw; (try dsimp only at hSw); go_simp; (first | done | with_reducible rfl))))
      (try simp only [Act.put, List.setIfInBounds_toArray, List.set_cons_zero, List.set_cons_succ])
      ((refine takeY 4 (v := ?_) rfl (by kernel_rfl) (by kernel_rfl) (by kernel_rfl) (fun _ _ _ h => h) (by rfl) (by assumption) ?_ ?_; rotate_left; · (intro w hSw; (try dsimp only at hSw); go_simp; (first | done | with_reducible rfl))))
      (try simp only [Act.put, List.setIfInBounds_toArray, List.set_cons_zero, List.set_cons_succ])
      ((refine takeY 5 (v := ?_) rfl (by kernel_rfl) (by kernel_rfl) (by kernel_rfl) (fun _ _ _ h => h) (by rfl) (by assumption) ?_ ?_; rotate_left; · (intro w hSw; (try dsimp only at hSw); go_simp; (first | done | with_reducible rfl))))
      (try simp only [Act.put, List.setIfInBounds_toArray, List.set_cons_zero, List.set_cons_succ])
      ((refine takeY 6 (v := ?_) rfl (by kernel_rfl) (by kernel_rfl) (by kernel_rfl) (fun _ _ _ h => h) (by rfl) (by assumption) ?_ ?_; rotate_left; · (intro w hSw; (try dsimp only at hSw); go_simp; (first | done | with_reducible rfl))))
      (try simp only [Act.put, List.setIfInBounds_toArray, List.set_cons_zero, List.set_cons_succ])
      try (((refine takeY 8 (v := ?_) rfl (by kernel_rfl) (by decide +kernel) (by decide +kernel) (fun _ _ _ h => h) (by rfl) (by assumption) ?_ ?_; rotate_left; · (intro w hSw; (try dsimp only at hSw); go_simp; (first | done | with_reducible rfl)))); (try simp only [Act.put, List.setIfInBounds_toArray, List.set_cons_zero, List.set_cons_succ]))
      try (((refine takeY 9 (v := ?_) rfl (by kernel_rfl) (by decide +kernel) (by decide +kernel) (fun _ _ _ h => h) (by rfl) (by assumption) ?_ ?_; rotate_left; · (intro w hSw; (try dsimp only at hSw); go_simp; (first | done | with_reducible rfl)))); (try simp only [Act.put, List.setIfInBounds_toArray, List.set_cons_zero, List.set_cons_succ]))
      try (((refine takeY 10 (v := ?_) rfl (by kernel_rfl) (by decide +kernel) (by decide +kernel) (fun _ _ _ h => h) (by rfl) (by assumption) ?_ ?_; rotate_left; · (intro w hSw; (try dsimp only at hSw); go_simp; (first | done | with_reducible rfl)))); (try simp only [Act.put, List.setIfInBounds_toArray, List.set_cons_zero, List.set_cons_succ]))
      try (((refine takeY 11 (v := ?_) rfl (by kernel_rfl) (by decide +kernel) (by decide +kernel) (fun _ _ _ h => h) (by rfl) (by assumption) ?_ ?_; rotate_left; · (intro w hSw; (try dsimp only at hSw); go_simp; (first | done | with_reducible rfl)))); (try simp only [Act.put, List.setIfInBounds_toArray, List.set_cons_zero, List.set_cons_succ]))
      try (((refine takeY 12 (v := ?_) rfl (by kernel_rfl) (by decide +kernel) (by decide +kernel) (fun _ _ _ h => h) (by rfl) (by assumption) ?_ ?_; rotate_left; · (intro w hSw; (try dsimp only at hSw); go_simp; (first | done | with_reducible rfl)))); (try simp only [Act.put, List.setIfInBounds_toArray, List.set_cons_zero, List.set_cons_succ]))
      try (((refine takeY 13 (v := ?_) rfl (by kernel_rfl) (by decide +kernel) (by decide +kernel) (fun _ _ _ h => h) (by rfl) (by assumption) ?_ ?_; rotate_left; · (intro w hSw; (try dsimp only at hSw); go_simp; (first | done | with_reducible rfl)))); (try simp only [Act.put, List.setIfInBounds_toArray, List.set_cons_zero, List.set_cons_succ]))
      try (((refine takeY 14 (v := ?_) rfl (by kernel_rfl) (by decide +kernel) (by decide +kernel) (fun _ _ _ h => h) (by rfl) (by assumption) ?_ ?_; rotate_left; · (intro w hSw; (try dsimp only at hSw); go_simp; (first | done | with_reducible rfl)))); (try simp only [Act.put, List.setIfInBounds_toArray, List.set_cons_zero, List.set_cons_succ]))
      first
        | (refine takeN 7 rfl (by kernel_rfl) (by kernel_rfl) (by kernel_rfl) (fun _ _ _ h => h) (by rfl) (by assumption) ?_)
        | (refine stepH 7 rfl (by kernel_rfl) (by rfl) (fun K hK => ?_)
           go_simp
           ((with_reducible refine (may_any _ _ t n f fr ac pa _ HSd.out.led hw0).mono ?_); rintro e w3 ⟨rfl, hb3⟩; have HS3 := Lib.hid (HSd.out.quiet hb3); have HG3 := Lib.hid (HGd.out.below hb3 HGd.out.lt); clear hb3; have g0 := (HG3.out.cell 0).trans rfl; have g1 := (HG3.out.cell 1).trans rfl; have g2 := (HG3.out.cell 2).trans rfl)
           (refine hK.out _ _ ?_ (fun hHeld => ?_))
           · exact ⟨g0, g1, g2⟩
           clear hK K)
      try (((refine takeY 8 (v := ?_) rfl (by kernel_rfl) (by decide +kernel) (by decide +kernel) (fun _ _ _ h => h) (by rfl) (by assumption) ?_ ?_; rotate_left; · (intro w hSw; (try dsimp only at hSw); go_simp; (first | done | with_reducible rfl)))); (try simp only [Act.put, List.setIfInBounds_toArray, List.set_cons_zero, List.set_cons_succ]))
      try (((refine takeY 9 (v := ?_) rfl (by kernel_rfl) (by decide +kernel) (by decide +kernel) (fun _ _ _ h => h) (by rfl) (by assumption) ?_ ?_; rotate_left; · (intro w hSw; (try dsimp only at hSw); go_simp; (first | done | with_reducible rfl)))); (try simp only [Act.put, List.setIfInBounds_toArray, List.set_cons_zero, List.set_cons_succ]))
      try (((refine takeY 10 (v := ?_) rfl (by kernel_rfl) (by decide +kernel) (by decide +kernel) (fun _ _ _ h => h) (by rfl) (by assumption) ?_ ?_; rotate_left; · (intro w hSw; (try dsimp only at hSw); go_simp; (first | done | with_reducible rfl)))); (try simp only [Act.put, List.setIfInBounds_toArray, List.set_cons_zero, List.set_cons_succ]))
      try (((refine takeY 11 (v := ?_) rfl (by kernel_rfl) (by decide +kernel) (by decide +kernel) (fun _ _ _ h => h) (by rfl) (by assumption) ?_ ?_; rotate_left; · (intro w hSw; (try dsimp only at hSw); go_simp; (first | done | with_reducible rfl)))); (try simp only [Act.put, List.setIfInBounds_toArray, List.set_cons_zero, List.set_cons_succ]))
      try (((refine takeY 12 (v := ?_) rfl (by kernel_rfl) (by decide +kernel) (by decide +kernel) (fun _ _ _ h => h) (by rfl) (by assumption) ?_ ?_; rotate_left; · (intro w hSw; (try dsimp only at hSw); go_simp; (first | done | with_reducible rfl)))); (try simp only [Act.put, List.setIfInBounds_toArray, List.set_cons_zero, List.set_cons_succ]))
      try (((refine takeY 13 (v := ?_) rfl (by kernel_rfl) (by decide +kernel) (by decide +kernel) (fun _ _ _ h => h) (by rfl) (by assumption) ?_ ?_; rotate_left; · (intro w hSw; (try dsimp only at hSw); go_simp; (first | done | with_reducible rfl)))); (try simp only [Act.put, List.setIfInBounds_toArray, List.set_cons_zero, List.set_cons_succ]))
      try (((refine takeY 14 (v := ?_) rfl (by kernel_rfl) (by decide +kernel) (by decide +kernel) (fun _ _ _ h => h) (by rfl) (by assumption) ?_ ?_; rotate_left; · (intro w hSw; (try dsimp only at hSw); go_simp; (first | done | with_reducible rfl)))); (try simp only [Act.put, List.setIfInBounds_toArray, List.set_cons_zero, List.set_cons_succ]))
      first
        | (refine takeN 15 rfl (by kernel_rfl) (by kernel_rfl) (by kernel_rfl) (fun _ _ _ h => h) (by rfl) (by assumption) ?_)
        | (refine stepH 15 rfl (by kernel_rfl) (by rfl) (fun K hK => ?_)
           go_simp
           ((with_reducible refine (rmay_any rb _ _ n ps f fr ac pa _ HS3.out.q HS3.out.sim HS3.out.good).mono ?_); rintro e w4 ⟨rfl, hb4⟩; have HS4 := Lib.hid (HS3.out.quiet hb4); have HG4 := Lib.hid (HG3.out.below hb4 HG3.out.lt); clear hb4; have g0 := (HG4.out.cell 0).trans rfl; have g1 := (HG4.out.cell 1).trans rfl; have g2 := (HG4.out.cell 2).trans rfl)
           (refine hK.out _ _ ?_ (fun hHeld => ?_))
           · exact ⟨g0, g1, g2⟩
           clear hK K)
      first
        | (refine takeN 16 rfl (by kernel_rfl) (by kernel_rfl) (by kernel_rfl) (fun _ _ _ h => h) (by rfl) (by assumption) ?_)
        | (refine stepH 16 rfl (by kernel_rfl) (by rfl) (fun K hK => ?_)
           go_simp
           skip
           (refine hK.out _ _ ?_ (fun hHeld => ?_))
           · exact ⟨g0, g1, g2⟩
           clear hK K)
      first
        | (refine takeN 17 rfl (by kernel_rfl) (by kernel_rfl) (by kernel_rfl) (fun _ _ _ h => h) (by rfl) (by assumption) ?_)
        | (refine stepH 17 rfl (by kernel_rfl) (by rfl) (fun K hK => ?_)
           go_simp
           skip
           (refine hK.out _ _ ?_ (fun hHeld => ?_))
           · exact ⟨g0, g1, g2⟩
           clear hK K)
      refine wpAnyH_done (by kernel_rfl) ?_ _
      clear hHeld
      go_wp2_with fail
      have HSe := Lib.hid (HS4.out.quiet (Below.refl _ _).drew)
      have HGe := Lib.hid HG4.out.drew
      have HGA := Lib.hid (good_aft (n := n) HSe.out.good fr ac pa)
      have HIA := Lib.hid (HSe.out.inv.aft fr ac pa)
      have eq1 : ∀ W, (binOp .neq 36 (.agg #[.int .i64 (ent (aftS n f fr ac pa) fr).1, .int .i64 (ent (aftS n f fr ac pa) fr).2]) (.agg #[.int .i64 (ent (aftS n f fr ac pa) fr).1, .int .i64 (ent (aftS n f fr ac pa) fr).2])).run Try.prog W = .ok (.bool false) W := fun W => by rw [ent_neq]; simp
      refine wp_region_held_drew (S := (fun w' => w'.cell? ⟨wr.heap.size, 0, none⟩ = some (.int .i64 fr) ∧ w'.cell? ⟨wr.heap.size, 1, none⟩ = some (.int .i64 ac) ∧ w'.cell? ⟨wr.heap.size, 2, none⟩ = some (.int .i64 pa))) (by kernel_rfl) ?_ (fun hHeld => ?_)
      · exact ⟨g0, g1, g2⟩
      ((refine takeY 0 (v := ?_) rfl (by kernel_rfl) (by kernel_rfl) (by kernel_rfl) (fun _ _ _ h => h) (by rfl) (by assumption) ?_ ?_; rotate_left; · (intro w hSw; (try dsimp only at hSw); go_simp; (first | done | with_reducible rfl))))
      (try simp only [Act.put, List.setIfInBounds_toArray, List.set_cons_zero, List.set_cons_succ])
      ((refine takeY 1 (v := ?_) rfl (by kernel_rfl) (by kernel_rfl) (by kernel_rfl) (fun _ _ _ h => h) (by rfl) (by assumption) ?_ ?_; rotate_left; · (intro w hSw; (try dsimp only at hSw); go_simp; (first | done | with_reducible rfl))))
      (try simp only [Act.put, List.setIfInBounds_toArray, List.set_cons_zero, List.set_cons_succ])
      ((refine takeY 2 (v := ?_) rfl (by kernel_rfl) (by kernel_rfl) (by kernel_rfl) (fun _ _ _ h => h) (by rfl) (by assumption) ?_ ?_; rotate_left; · (intro w hSw; (try dsimp only at hSw); go_simp; (first | done | with_reducible rfl))))
      (try simp only [Act.put, List.setIfInBounds_toArray, List.set_cons_zero, List.set_cons_succ])
      ((refine takeY 3 (v := ?_) rfl (by kernel_rfl) (by kernel_rfl) (by kernel_rfl) (fun _ _ _ h => h) (by rfl) (by assumption) ?_ ?_; rotate_left; · (intro w hSw; (try dsimp only at hSw); go_simp; (first | done | with_reducible rfl))))
      (try simp only [Act.put, List.setIfInBounds_toArray, List.set_cons_zero, List.set_cons_succ])
      (first | (refine takeN 4 rfl (by kernel_rfl) (by kernel_rfl) (by kernel_rfl) (fun _ _ _ h => h) (by rfl) (by assumption) ?_) | (refine takeY 4 (v := ?_) rfl (by kernel_rfl) (by kernel_rfl) (by kernel_rfl) (fun _ _ _ h => h) (by rfl) (by assumption) ?_ ?_; rotate_left; · (intro w hSw; (try dsimp only at hSw); go_simp; (first | done | with_reducible rfl))))
      (try simp only [Act.put, List.setIfInBounds_toArray, List.set_cons_zero, List.set_cons_succ])
      (first | (refine takeN 5 rfl (by kernel_rfl) (by kernel_rfl) (by kernel_rfl) (fun _ _ _ h => h) (by rfl) (by assumption) ?_) | (refine takeY 5 (v := ?_) rfl (by kernel_rfl) (by kernel_rfl) (by kernel_rfl) (fun _ _ _ h => h) (by rfl) (by assumption) ?_ ?_; rotate_left; · (intro w hSw; (try dsimp only at hSw); go_simp; (first | done | with_reducible rfl))))
      (try simp only [Act.put, List.setIfInBounds_toArray, List.set_cons_zero, List.set_cons_succ])
      (first | (refine takeN 6 rfl (by kernel_rfl) (by kernel_rfl) (by kernel_rfl) (fun _ _ _ h => h) (by rfl) (by assumption) ?_) | (refine takeY 6 (v := ?_) rfl (by kernel_rfl) (by kernel_rfl) (by kernel_rfl) (fun _ _ _ h => h) (by rfl) (by assumption) ?_ ?_; rotate_left; · (intro w hSw; (try dsimp only at hSw); go_simp; (first | done | with_reducible rfl))))
      (try simp only [Act.put, List.setIfInBounds_toArray, List.set_cons_zero, List.set_cons_succ])
      (first | (refine takeN 7 rfl (by kernel_rfl) (by kernel_rfl) (by kernel_rfl) (fun _ _ _ h => h) (by rfl) (by assumption) ?_) | (refine takeY 7 (v := ?_) rfl (by kernel_rfl) (by kernel_rfl) (by kernel_rfl) (fun _ _ _ h => h) (by rfl) (by assumption) ?_ ?_; rotate_left; · (intro w hSw; (try dsimp only at hSw); go_simp; (first | done | with_reducible rfl))))
      (try simp only [Act.put, List.setIfInBounds_toArray, List.set_cons_zero, List.set_cons_succ])
      (first | (refine takeN 8 rfl (by kernel_rfl) (by kernel_rfl) (by kernel_rfl) (fun _ _ _ h => h) (by rfl) (by assumption) ?_) | (refine takeY 8 (v := ?_) rfl (by kernel_rfl) (by kernel_rfl) (by kernel_rfl) (fun _ _ _ h => h) (by rfl) (by assumption) ?_ ?_; rotate_left; · (intro w hSw; (try dsimp only at hSw); go_simp; (first | done | with_reducible rfl))))
      (try simp only [Act.put, List.setIfInBounds_toArray, List.set_cons_zero, List.set_cons_succ])
      (first | (refine takeN 9 rfl (by kernel_rfl) (by kernel_rfl) (by kernel_rfl) (fun _ _ _ h => h) (by rfl) (by assumption) ?_) | (refine takeY 9 (v := ?_) rfl (by kernel_rfl) (by kernel_rfl) (by kernel_rfl) (fun _ _ _ h => h) (by rfl) (by assumption) ?_ ?_; rotate_left; · (intro w hSw; (try dsimp only at hSw); go_simp; (first | done | with_reducible rfl))))
      (try simp only [Act.put, List.setIfInBounds_toArray, List.set_cons_zero, List.set_cons_succ])
      (first | (refine takeN 10 rfl (by kernel_rfl) (by kernel_rfl) (by kernel_rfl) (fun _ _ _ h => h) (by rfl) (by assumption) ?_) | (refine takeY 10 (v := ?_) rfl (by kernel_rfl) (by kernel_rfl) (by kernel_rfl) (fun _ _ _ h => h) (by rfl) (by assumption) ?_ ?_; rotate_left; · (intro w hSw; (try dsimp only at hSw); go_simp; (first | done | with_reducible rfl))))
      (try simp only [Act.put, List.setIfInBounds_toArray, List.set_cons_zero, List.set_cons_succ])
      try ((first | (refine takeN 12 rfl (by kernel_rfl) (by decide +kernel) (by decide +kernel) (fun _ _ _ h => h) (by rfl) (by assumption) ?_) | (refine takeY 12 (v := ?_) rfl (by kernel_rfl) (by decide +kernel) (by decide +kernel) (fun _ _ _ h => h) (by rfl) (by assumption) ?_ ?_; rotate_left; · (intro w hSw; (try dsimp only at hSw); go_simp; (first | done | with_reducible rfl)))); (try simp only [Act.put, List.setIfInBounds_toArray, List.set_cons_zero, List.set_cons_succ]))
      try ((first | (refine takeN 13 rfl (by kernel_rfl) (by decide +kernel) (by decide +kernel) (fun _ _ _ h => h) (by rfl) (by assumption) ?_) | (refine takeY 13 (v := ?_) rfl (by kernel_rfl) (by decide +kernel) (by decide +kernel) (fun _ _ _ h => h) (by rfl) (by assumption) ?_ ?_; rotate_left; · (intro w hSw; (try dsimp only at hSw); go_simp; (first | done | with_reducible rfl)))); (try simp only [Act.put, List.setIfInBounds_toArray, List.set_cons_zero, List.set_cons_succ]))
      try ((first | (refine takeN 14 rfl (by kernel_rfl) (by decide +kernel) (by decide +kernel) (fun _ _ _ h => h) (by rfl) (by assumption) ?_) | (refine takeY 14 (v := ?_) rfl (by kernel_rfl) (by decide +kernel) (by decide +kernel) (fun _ _ _ h => h) (by rfl) (by assumption) ?_ ?_; rotate_left; · (intro w hSw; (try dsimp only at hSw); go_simp; (first | done | with_reducible rfl)))); (try simp only [Act.put, List.setIfInBounds_toArray, List.set_cons_zero, List.set_cons_succ]))
      try ((first | (refine takeN 15 rfl (by kernel_rfl) (by decide +kernel) (by decide +kernel) (fun _ _ _ h => h) (by rfl) (by assumption) ?_) | (refine takeY 15 (v := ?_) rfl (by kernel_rfl) (by decide +kernel) (by decide +kernel) (fun _ _ _ h => h) (by rfl) (by assumption) ?_ ?_; rotate_left; · (intro w hSw; (try dsimp only at hSw); go_simp; (first | done | with_reducible rfl)))); (try simp only [Act.put, List.setIfInBounds_toArray, List.set_cons_zero, List.set_cons_succ]))
      try ((first | (refine takeN 16 rfl (by kernel_rfl) (by decide +kernel) (by decide +kernel) (fun _ _ _ h => h) (by rfl) (by assumption) ?_) | (refine takeY 16 (v := ?_) rfl (by kernel_rfl) (by decide +kernel) (by decide +kernel) (fun _ _ _ h => h) (by rfl) (by assumption) ?_ ?_; rotate_left; · (intro w hSw; (try dsimp only at hSw); go_simp; (first | done | with_reducible rfl)))); (try simp only [Act.put, List.setIfInBounds_toArray, List.set_cons_zero, List.set_cons_succ]))
      try ((first | (refine takeN 17 rfl (by kernel_rfl) (by decide +kernel) (by decide +kernel) (fun _ _ _ h => h) (by rfl) (by assumption) ?_) | (refine takeY 17 (v := ?_) rfl (by kernel_rfl) (by decide +kernel) (by decide +kernel) (fun _ _ _ h => h) (by rfl) (by assumption) ?_ ?_; rotate_left; · (intro w hSw; (try dsimp only at hSw); go_simp; (first | done | with_reducible rfl)))); (try simp only [Act.put, List.setIfInBounds_toArray, List.set_cons_zero, List.set_cons_succ]))
      try ((first | (refine takeN 18 rfl (by kernel_rfl) (by decide +kernel) (by decide +kernel) (fun _ _ _ h => h) (by rfl) (by assumption) ?_) | (refine takeY 18 (v := ?_) rfl (by kernel_rfl) (by decide +kernel) (by decide +kernel) (fun _ _ _ h => h) (by rfl) (by assumption) ?_ ?_; rotate_left; · (intro w hSw; (try dsimp only at hSw); go_simp; (first | done | with_reducible rfl)))); (try simp only [Act.put, List.setIfInBounds_toArray, List.set_cons_zero, List.set_cons_succ]))
      try ((first | (refine takeN 20 rfl (by kernel_rfl) (by decide +kernel) (by decide +kernel) (fun _ _ _ h => h) (by rfl) (by assumption) ?_) | (refine takeY 20 (v := ?_) rfl (by kernel_rfl) (by decide +kernel) (by decide +kernel) (fun _ _ _ h => h) (by rfl) (by assumption) ?_ ?_; rotate_left; · (intro w hSw; (try dsimp only at hSw); go_simp; (first | done | with_reducible rfl)))); (try simp only [Act.put, List.setIfInBounds_toArray, List.set_cons_zero, List.set_cons_succ]))
      try (((refine takeY 21 (v := ?_) rfl (by kernel_rfl) (by decide +kernel) (by decide +kernel) (fun _ _ _ h => h) (by rfl) (by assumption) ?_ ?_; rotate_left; · (intro w hSw; (try dsimp only at hSw); go_simp; (first | done | with_reducible rfl)))); (try simp only [Act.put, List.setIfInBounds_toArray, List.set_cons_zero, List.set_cons_succ]))
      try (((refine takeY 22 (v := ?_) rfl (by kernel_rfl) (by decide +kernel) (by decide +kernel) (fun _ _ _ h => h) (by rfl) (by assumption) ?_ ?_; rotate_left; · (intro w hSw; (try dsimp only at hSw); go_simp; (first | done | with_reducible rfl)))); (try simp only [Act.put, List.setIfInBounds_toArray, List.set_cons_zero, List.set_cons_succ]))
      try ((first | (refine takeN 23 rfl (by kernel_rfl) (by decide +kernel) (by decide +kernel) (fun _ _ _ h => h) (by rfl) (by assumption) ?_) | (refine takeY 23 (v := ?_) rfl (by kernel_rfl) (by decide +kernel) (by decide +kernel) (fun _ _ _ h => h) (by rfl) (by assumption) ?_ ?_; rotate_left; · (intro w hSw; (try dsimp only at hSw); go_simp; (first | done | with_reducible rfl)))); (try simp only [Act.put, List.setIfInBounds_toArray, List.set_cons_zero, List.set_cons_succ]))
      try ((first | (refine takeN 24 rfl (by kernel_rfl) (by decide +kernel) (by decide +kernel) (fun _ _ _ h => h) (by rfl) (by assumption) ?_) | (refine takeY 24 (v := ?_) rfl (by kernel_rfl) (by decide +kernel) (by decide +kernel) (fun _ _ _ h => h) (by rfl) (by assumption) ?_ ?_; rotate_left; · (intro w hSw; (try dsimp only at hSw); go_simp; (first | done | with_reducible rfl)))); (try simp only [Act.put, List.setIfInBounds_toArray, List.set_cons_zero, List.set_cons_succ]))
      try ((first | (refine takeN 25 rfl (by kernel_rfl) (by decide +kernel) (by decide +kernel) (fun _ _ _ h => h) (by rfl) (by assumption) ?_) | (refine takeY 25 (v := ?_) rfl (by kernel_rfl) (by decide +kernel) (by decide +kernel) (fun _ _ _ h => h) (by rfl) (by assumption) ?_ ?_; rotate_left; · (intro w hSw; (try dsimp only at hSw); go_simp; (first | done | with_reducible rfl)))); (try simp only [Act.put, List.setIfInBounds_toArray, List.set_cons_zero, List.set_cons_succ]))
      try ((first | (refine takeN 27 rfl (by kernel_rfl) (by decide +kernel) (by decide +kernel) (fun _ _ _ h => h) (by rfl) (by assumption) ?_) | (refine takeY 27 (v := ?_) rfl (by kernel_rfl) (by decide +kernel) (by decide +kernel) (fun _ _ _ h => h) (by rfl) (by assumption) ?_ ?_; rotate_left; · (intro w hSw; (try dsimp only at hSw); go_simp; (first | done | with_reducible rfl)))); (try simp only [Act.put, List.setIfInBounds_toArray, List.set_cons_zero, List.set_cons_succ]))
      try ((first | (refine takeN 28 rfl (by kernel_rfl) (by decide +kernel) (by decide +kernel) (fun _ _ _ h => h) (by rfl) (by assumption) ?_) | (refine takeY 28 (v := ?_) rfl (by kernel_rfl) (by decide +kernel) (by decide +kernel) (fun _ _ _ h => h) (by rfl) (by assumption) ?_ ?_; rotate_left; · (intro w hSw; (try dsimp only at hSw); go_simp; (first | done | with_reducible rfl)))); (try simp only [Act.put, List.setIfInBounds_toArray, List.set_cons_zero, List.set_cons_succ]))
      try ((first | (refine takeN 29 rfl (by kernel_rfl) (by decide +kernel) (by decide +kernel) (fun _ _ _ h => h) (by rfl) (by assumption) ?_) | (refine takeY 29 (v := ?_) rfl (by kernel_rfl) (by decide +kernel) (by decide +kernel) (fun _ _ _ h => h) (by rfl) (by assumption) ?_ ?_; rotate_left; · (intro w hSw; (try dsimp only at hSw); go_simp; (first | done | with_reducible rfl)))); (try simp only [Act.put, List.setIfInBounds_toArray, List.set_cons_zero, List.set_cons_succ]))
      try ((first | (refine takeN 31 rfl (by kernel_rfl) (by decide +kernel) (by decide +kernel) (fun _ _ _ h => h) (by rfl) (by assumption) ?_) | (refine takeY 31 (v := ?_) rfl (by kernel_rfl) (by decide +kernel) (by decide +kernel) (fun _ _ _ h => h) (by rfl) (by assumption) ?_ ?_; rotate_left; · (intro w hSw; (try dsimp only at hSw); go_simp; (first | done | with_reducible rfl)))); (try simp only [Act.put, List.setIfInBounds_toArray, List.set_cons_zero, List.set_cons_succ]))
      try (((refine takeY 32 (v := ?_) rfl (by kernel_rfl) (by decide +kernel) (by decide +kernel) (fun _ _ _ h => h) (by rfl) (by assumption) ?_ ?_; rotate_left; · (intro w hSw; (try dsimp only at hSw); go_simp; (first | done | with_reducible rfl)))); (try simp only [Act.put, List.setIfInBounds_toArray, List.set_cons_zero, List.set_cons_succ]))
      first
        | (refine takeN 11 rfl (by kernel_rfl) (by kernel_rfl) (by kernel_rfl) (fun _ _ _ h => h) (by rfl) (by assumption) ?_)
        | (refine stepH 11 rfl (by kernel_rfl) (by rfl) (fun K hK => ?_)
           go_simp
           ((with_reducible refine (do_all _ _ t n f fr ac pa _ HSe.out.led hw0 (by unfold maxLen; omega)).mono ?_); rintro e w5 ⟨rfl, h5, hg5⟩; have HG5 := Lib.hid (HGe.out.grown hg5 (by simp; omega)); have HQ5 := Lib.hid (HSe.out.q.only ((Only.refl (fun k => k = w.heap.size) _).grown hg5 (fun k e => by cases e; exact .inl rfl)) (by omega) (by omega)); have HB5 := Lib.hid (HSe.out.be.grown hg5 HSe.out.be.size (fun _ e => by cases e; exact Nat.le_refl _)); have H5 := Lib.hid h5; clear h5 hg5; have g0 := (HG5.out.cell 0).trans rfl; have g1 := (HG5.out.cell 1).trans rfl; have g2 := (HG5.out.cell 2).trans rfl)
           (refine hK.out _ _ ?_ (fun hHeld => ?_))
           · exact ⟨g0, g1, g2⟩
           clear hK K)
      try ((first | (refine takeN 12 rfl (by kernel_rfl) (by decide +kernel) (by decide +kernel) (fun _ _ _ h => h) (by rfl) (by assumption) ?_) | (refine takeY 12 (v := ?_) rfl (by kernel_rfl) (by decide +kernel) (by decide +kernel) (fun _ _ _ h => h) (by rfl) (by assumption) ?_ ?_; rotate_left; · (intro w hSw; (try dsimp only at hSw); go_simp; (first | done | with_reducible rfl)))); (try simp only [Act.put, List.setIfInBounds_toArray, List.set_cons_zero, List.set_cons_succ]))
      try ((first | (refine takeN 13 rfl (by kernel_rfl) (by decide +kernel) (by decide +kernel) (fun _ _ _ h => h) (by rfl) (by assumption) ?_) | (refine takeY 13 (v := ?_) rfl (by kernel_rfl) (by decide +kernel) (by decide +kernel) (fun _ _ _ h => h) (by rfl) (by assumption) ?_ ?_; rotate_left; · (intro w hSw; (try dsimp only at hSw); go_simp; (first | done | with_reducible rfl)))); (try simp only [Act.put, List.setIfInBounds_toArray, List.set_cons_zero, List.set_cons_succ]))
      try ((first | (refine takeN 14 rfl (by kernel_rfl) (by decide +kernel) (by decide +kernel) (fun _ _ _ h => h) (by rfl) (by assumption) ?_) | (refine takeY 14 (v := ?_) rfl (by kernel_rfl) (by decide +kernel) (by decide +kernel) (fun _ _ _ h => h) (by rfl) (by assumption) ?_ ?_; rotate_left; · (intro w hSw; (try dsimp only at hSw); go_simp; (first | done | with_reducible rfl)))); (try simp only [Act.put, List.setIfInBounds_toArray, List.set_cons_zero, List.set_cons_succ]))
      try ((first | (refine takeN 15 rfl (by kernel_rfl) (by decide +kernel) (by decide +kernel) (fun _ _ _ h => h) (by rfl) (by assumption) ?_) | (refine takeY 15 (v := ?_) rfl (by kernel_rfl) (by decide +kernel) (by decide +kernel) (fun _ _ _ h => h) (by rfl) (by assumption) ?_ ?_; rotate_left; · (intro w hSw; (try dsimp only at hSw); go_simp; (first | done | with_reducible rfl)))); (try simp only [Act.put, List.setIfInBounds_toArray, List.set_cons_zero, List.set_cons_succ]))
      try ((first | (refine takeN 16 rfl (by kernel_rfl) (by decide +kernel) (by decide +kernel) (fun _ _ _ h => h) (by rfl) (by assumption) ?_) | (refine takeY 16 (v := ?_) rfl (by kernel_rfl) (by decide +kernel) (by decide +kernel) (fun _ _ _ h => h) (by rfl) (by assumption) ?_ ?_; rotate_left; · (intro w hSw; (try dsimp only at hSw); go_simp; (first | done | with_reducible rfl)))); (try simp only [Act.put, List.setIfInBounds_toArray, List.set_cons_zero, List.set_cons_succ]))
      try ((first | (refine takeN 17 rfl (by kernel_rfl) (by decide +kernel) (by decide +kernel) (fun _ _ _ h => h) (by rfl) (by assumption) ?_) | (refine takeY 17 (v := ?_) rfl (by kernel_rfl) (by decide +kernel) (by decide +kernel) (fun _ _ _ h => h) (by rfl) (by assumption) ?_ ?_; rotate_left; · (intro w hSw; (try dsimp only at hSw); go_simp; (first | done | with_reducible rfl)))); (try simp only [Act.put, List.setIfInBounds_toArray, List.set_cons_zero, List.set_cons_succ]))
      try ((first | (refine takeN 18 rfl (by kernel_rfl) (by decide +kernel) (by decide +kernel) (fun _ _ _ h => h) (by rfl) (by assumption) ?_) | (refine takeY 18 (v := ?_) rfl (by kernel_rfl) (by decide +kernel) (by decide +kernel) (fun _ _ _ h => h) (by rfl) (by assumption) ?_ ?_; rotate_left; · (intro w hSw; (try dsimp only at hSw); go_simp; (first | done | with_reducible rfl)))); (try simp only [Act.put, List.setIfInBounds_toArray, List.set_cons_zero, List.set_cons_succ]))
      try ((first | (refine takeN 20 rfl (by kernel_rfl) (by decide +kernel) (by decide +kernel) (fun _ _ _ h => h) (by rfl) (by assumption) ?_) | (refine takeY 20 (v := ?_) rfl (by kernel_rfl) (by decide +kernel) (by decide +kernel) (fun _ _ _ h => h) (by rfl) (by assumption) ?_ ?_; rotate_left; · (intro w hSw; (try dsimp only at hSw); go_simp; (first | done | with_reducible rfl)))); (try simp only [Act.put, List.setIfInBounds_toArray, List.set_cons_zero, List.set_cons_succ]))
      try (((refine takeY 21 (v := ?_) rfl (by kernel_rfl) (by decide +kernel) (by decide +kernel) (fun _ _ _ h => h) (by rfl) (by assumption) ?_ ?_; rotate_left; · (intro w hSw; (try dsimp only at hSw); go_simp; (first | done | with_reducible rfl)))); (try simp only [Act.put, List.setIfInBounds_toArray, List.set_cons_zero, List.set_cons_succ]))
      try (((refine takeY 22 (v := ?_) rfl (by kernel_rfl) (by decide +kernel) (by decide +kernel) (fun _ _ _ h => h) (by rfl) (by assumption) ?_ ?_; rotate_left; · (intro w hSw; (try dsimp only at hSw); go_simp; (first | done | with_reducible rfl)))); (try simp only [Act.put, List.setIfInBounds_toArray, List.set_cons_zero, List.set_cons_succ]))
      try ((first | (refine takeN 23 rfl (by kernel_rfl) (by decide +kernel) (by decide +kernel) (fun _ _ _ h => h) (by rfl) (by assumption) ?_) | (refine takeY 23 (v := ?_) rfl (by kernel_rfl) (by decide +kernel) (by decide +kernel) (fun _ _ _ h => h) (by rfl) (by assumption) ?_ ?_; rotate_left; · (intro w hSw; (try dsimp only at hSw); go_simp; (first | done | with_reducible rfl)))); (try simp only [Act.put, List.setIfInBounds_toArray, List.set_cons_zero, List.set_cons_succ]))
      try ((first | (refine takeN 24 rfl (by kernel_rfl) (by decide +kernel) (by decide +kernel) (fun _ _ _ h => h) (by rfl) (by assumption) ?_) | (refine takeY 24 (v := ?_) rfl (by kernel_rfl) (by decide +kernel) (by decide +kernel) (fun _ _ _ h => h) (by rfl) (by assumption) ?_ ?_; rotate_left; · (intro w hSw; (try dsimp only at hSw); go_simp; (first | done | with_reducible rfl)))); (try simp only [Act.put, List.setIfInBounds_toArray, List.set_cons_zero, List.set_cons_succ]))
      try ((first | (refine takeN 25 rfl (by kernel_rfl) (by decide +kernel) (by decide +kernel) (fun _ _ _ h => h) (by rfl) (by assumption) ?_) | (refine takeY 25 (v := ?_) rfl (by kernel_rfl) (by decide +kernel) (by decide +kernel) (fun _ _ _ h => h) (by rfl) (by assumption) ?_ ?_; rotate_left; · (intro w hSw; (try dsimp only at hSw); go_simp; (first | done | with_reducible rfl)))); (try simp only [Act.put, List.setIfInBounds_toArray, List.set_cons_zero, List.set_cons_succ]))
      try ((first | (refine takeN 27 rfl (by kernel_rfl) (by decide +kernel) (by decide +kernel) (fun _ _ _ h => h) (by rfl) (by assumption) ?_) | (refine takeY 27 (v := ?_) rfl (by kernel_rfl) (by decide +kernel) (by decide +kernel) (fun _ _ _ h => h) (by rfl) (by assumption) ?_ ?_; rotate_left; · (intro w hSw; (try dsimp only at hSw); go_simp; (first | done | with_reducible rfl)))); (try simp only [Act.put, List.setIfInBounds_toArray, List.set_cons_zero, List.set_cons_succ]))
      try ((first | (refine takeN 28 rfl (by kernel_rfl) (by decide +kernel) (by decide +kernel) (fun _ _ _ h => h) (by rfl) (by assumption) ?_) | (refine takeY 28 (v := ?_) rfl (by kernel_rfl) (by decide +kernel) (by decide +kernel) (fun _ _ _ h => h) (by rfl) (by assumption) ?_ ?_; rotate_left; · (intro w hSw; (try dsimp only at hSw); go_simp; (first | done | with_reducible rfl)))); (try simp only [Act.put, List.setIfInBounds_toArray, List.set_cons_zero, List.set_cons_succ]))
      try ((first | (refine takeN 29 rfl (by kernel_rfl) (by decide +kernel) (by decide +kernel) (fun _ _ _ h => h) (by rfl) (by assumption) ?_) | (refine takeY 29 (v := ?_) rfl (by kernel_rfl) (by decide +kernel) (by decide +kernel) (fun _ _ _ h => h) (by rfl) (by assumption) ?_ ?_; rotate_left; · (intro w hSw; (try dsimp only at hSw); go_simp; (first | done | with_reducible rfl)))); (try simp only [Act.put, List.setIfInBounds_toArray, List.set_cons_zero, List.set_cons_succ]))
      try ((first | (refine takeN 31 rfl (by kernel_rfl) (by decide +kernel) (by decide +kernel) (fun _ _ _ h => h) (by rfl) (by assumption) ?_) | (refine takeY 31 (v := ?_) rfl (by kernel_rfl) (by decide +kernel) (by decide +kernel) (fun _ _ _ h => h) (by rfl) (by assumption) ?_ ?_; rotate_left; · (intro w hSw; (try dsimp only at hSw); go_simp; (first | done | with_reducible rfl)))); (try simp only [Act.put, List.setIfInBounds_toArray, List.set_cons_zero, List.set_cons_succ]))
      try (((refine takeY 32 (v := ?_) rfl (by kernel_rfl) (by decide +kernel) (by decide +kernel) (fun _ _ _ h => h) (by rfl) (by assumption) ?_ ?_; rotate_left; · (intro w hSw; (try dsimp only at hSw); go_simp; (first | done | with_reducible rfl)))); (try simp only [Act.put, List.setIfInBounds_toArray, List.set_cons_zero, List.set_cons_succ]))
      first
        | (refine takeN 19 rfl (by kernel_rfl) (by kernel_rfl) (by kernel_rfl) (fun _ _ _ h => h) (by rfl) (by assumption) ?_)
        | (refine stepH 19 rfl (by kernel_rfl) (by rfl) (fun K hK => ?_)
           go_simp
           ((with_reducible refine (rdo_any rb _ _ n ps f fr ac pa _ HQ5.out HSe.out.sim HSe.out.good).mono ?_); rintro e w6 ⟨rfl, ps', hq6, hsim6, ho6⟩; have HG6 := Lib.hid (HG5.out.only ho6 (by omega)); have HS6 : Hid (LS w w6 (w.heap.size + 1) w.heap.size rb w1.heap.size w1.heap.size (t + 1) n (aftS n f fr ac pa) ps') := Lib.hid ⟨led_only H5.out ho6 (by omega) (by omega), hq6, hsim6, HGA.out, HIA.out, HB5.out.trans (ho6.to_below (by rintro k rfl; omega) HB5.out.size)⟩; clear hq6 hsim6 ho6; have g0 := (HG6.out.cell 0).trans rfl; have g1 := (HG6.out.cell 1).trans rfl; have g2 := (HG6.out.cell 2).trans rfl)
           (refine hK.out _ _ ?_ (fun hHeld => ?_))
           · exact ⟨g0, g1, g2⟩
           clear hK K)
      try ((first | (refine takeN 20 rfl (by kernel_rfl) (by decide +kernel) (by decide +kernel) (fun _ _ _ h => h) (by rfl) (by assumption) ?_) | (refine takeY 20 (v := ?_) rfl (by kernel_rfl) (by decide +kernel) (by decide +kernel) (fun _ _ _ h => h) (by rfl) (by assumption) ?_ ?_; rotate_left; · (intro w hSw; (try dsimp only at hSw); go_simp; (first | done | with_reducible rfl)))); (try simp only [Act.put, List.setIfInBounds_toArray, List.set_cons_zero, List.set_cons_succ]))
      try (((refine takeY 21 (v := ?_) rfl (by kernel_rfl) (by decide +kernel) (by decide +kernel) (fun _ _ _ h => h) (by rfl) (by assumption) ?_ ?_; rotate_left; · (intro w hSw; (try dsimp only at hSw); go_simp; (first | done | with_reducible rfl)))); (try simp only [Act.put, List.setIfInBounds_toArray, List.set_cons_zero, List.set_cons_succ]))
      try (((refine takeY 22 (v := ?_) rfl (by kernel_rfl) (by decide +kernel) (by decide +kernel) (fun _ _ _ h => h) (by rfl) (by assumption) ?_ ?_; rotate_left; · (intro w hSw; (try dsimp only at hSw); go_simp; (first | done | with_reducible rfl)))); (try simp only [Act.put, List.setIfInBounds_toArray, List.set_cons_zero, List.set_cons_succ]))
      try ((first | (refine takeN 23 rfl (by kernel_rfl) (by decide +kernel) (by decide +kernel) (fun _ _ _ h => h) (by rfl) (by assumption) ?_) | (refine takeY 23 (v := ?_) rfl (by kernel_rfl) (by decide +kernel) (by decide +kernel) (fun _ _ _ h => h) (by rfl) (by assumption) ?_ ?_; rotate_left; · (intro w hSw; (try dsimp only at hSw); go_simp; (first | done | with_reducible rfl)))); (try simp only [Act.put, List.setIfInBounds_toArray, List.set_cons_zero, List.set_cons_succ]))
      try ((first | (refine takeN 24 rfl (by kernel_rfl) (by decide +kernel) (by decide +kernel) (fun _ _ _ h => h) (by rfl) (by assumption) ?_) | (refine takeY 24 (v := ?_) rfl (by kernel_rfl) (by decide +kernel) (by decide +kernel) (fun _ _ _ h => h) (by rfl) (by assumption) ?_ ?_; rotate_left; · (intro w hSw; (try dsimp only at hSw); go_simp; (first | done | with_reducible rfl)))); (try simp only [Act.put, List.setIfInBounds_toArray, List.set_cons_zero, List.set_cons_succ]))
      try ((first | (refine takeN 25 rfl (by kernel_rfl) (by decide +kernel) (by decide +kernel) (fun _ _ _ h => h) (by rfl) (by assumption) ?_) | (refine takeY 25 (v := ?_) rfl (by kernel_rfl) (by decide +kernel) (by decide +kernel) (fun _ _ _ h => h) (by rfl) (by assumption) ?_ ?_; rotate_left; · (intro w hSw; (try dsimp only at hSw); go_simp; (first | done | with_reducible rfl)))); (try simp only [Act.put, List.setIfInBounds_toArray, List.set_cons_zero, List.set_cons_succ]))
      try ((first | (refine takeN 27 rfl (by kernel_rfl) (by decide +kernel) (by decide +kernel) (fun _ _ _ h => h) (by rfl) (by assumption) ?_) | (refine takeY 27 (v := ?_) rfl (by kernel_rfl) (by decide +kernel) (by decide +kernel) (fun _ _ _ h => h) (by rfl) (by assumption) ?_ ?_; rotate_left; · (intro w hSw; (try dsimp only at hSw); go_simp; (first | done | with_reducible rfl)))); (try simp only [Act.put, List.setIfInBounds_toArray, List.set_cons_zero, List.set_cons_succ]))
      try ((first | (refine takeN 28 rfl (by kernel_rfl) (by decide +kernel) (by decide +kernel) (fun _ _ _ h => h) (by rfl) (by assumption) ?_) | (refine takeY 28 (v := ?_) rfl (by kernel_rfl) (by decide +kernel) (by decide +kernel) (fun _ _ _ h => h) (by rfl) (by assumption) ?_ ?_; rotate_left; · (intro w hSw; (try dsimp only at hSw); go_simp; (first | done | with_reducible rfl)))); (try simp only [Act.put, List.setIfInBounds_toArray, List.set_cons_zero, List.set_cons_succ]))
      try ((first | (refine takeN 29 rfl (by kernel_rfl) (by decide +kernel) (by decide +kernel) (fun _ _ _ h => h) (by rfl) (by assumption) ?_) | (refine takeY 29 (v := ?_) rfl (by kernel_rfl) (by decide +kernel) (by decide +kernel) (fun _ _ _ h => h) (by rfl) (by assumption) ?_ ?_; rotate_left; · (intro w hSw; (try dsimp only at hSw); go_simp; (first | done | with_reducible rfl)))); (try simp only [Act.put, List.setIfInBounds_toArray, List.set_cons_zero, List.set_cons_succ]))
      try ((first | (refine takeN 31 rfl (by kernel_rfl) (by decide +kernel) (by decide +kernel) (fun _ _ _ h => h) (by rfl) (by assumption) ?_) | (refine takeY 31 (v := ?_) rfl (by kernel_rfl) (by decide +kernel) (by decide +kernel) (fun _ _ _ h => h) (by rfl) (by assumption) ?_ ?_; rotate_left; · (intro w hSw; (try dsimp only at hSw); go_simp; (first | done | with_reducible rfl)))); (try simp only [Act.put, List.setIfInBounds_toArray, List.set_cons_zero, List.set_cons_succ]))
      try (((refine takeY 32 (v := ?_) rfl (by kernel_rfl) (by decide +kernel) (by decide +kernel) (fun _ _ _ h => h) (by rfl) (by assumption) ?_ ?_; rotate_left; · (intro w hSw; (try dsimp only at hSw); go_simp; (first | done | with_reducible rfl)))); (try simp only [Act.put, List.setIfInBounds_toArray, List.set_cons_zero, List.set_cons_succ]))
      first
        | (refine takeN 26 rfl (by kernel_rfl) (by kernel_rfl) (by kernel_rfl) (fun _ _ _ h => h) (by rfl) (by assumption) ?_)
        | (refine stepH 26 rfl (by kernel_rfl) (by rfl) (fun K hK => ?_)
           go_simp
           ((with_reducible refine (get_any _ _ (t + 1) n (aftS n f fr ac pa) fr _ HS6.out.led hw0).mono ?_); rintro e w7 ⟨rfl, hb7⟩; have HS7 := Lib.hid (HS6.out.quiet hb7); have HG7 := Lib.hid (HG6.out.below hb7 HG6.out.lt); clear hb7; have g0 := (HG7.out.cell 0).trans rfl; have g1 := (HG7.out.cell 1).trans rfl; have g2 := (HG7.out.cell 2).trans rfl)
           (refine hK.out _ _ ?_ (fun hHeld => ?_))
           · exact ⟨g0, g1, g2⟩
           clear hK K)
      try ((first | (refine takeN 27 rfl (by kernel_rfl) (by decide +kernel) (by decide +kernel) (fun _ _ _ h => h) (by rfl) (by assumption) ?_) | (refine takeY 27 (v := ?_) rfl (by kernel_rfl) (by decide +kernel) (by decide +kernel) (fun _ _ _ h => h) (by rfl) (by assumption) ?_ ?_; rotate_left; · (intro w hSw; (try dsimp only at hSw); go_simp; (first | done | with_reducible rfl)))); (try simp only [Act.put, List.setIfInBounds_toArray, List.set_cons_zero, List.set_cons_succ]))
      try ((first | (refine takeN 28 rfl (by kernel_rfl) (by decide +kernel) (by decide +kernel) (fun _ _ _ h => h) (by rfl) (by assumption) ?_) | (refine takeY 28 (v := ?_) rfl (by kernel_rfl) (by decide +kernel) (by decide +kernel) (fun _ _ _ h => h) (by rfl) (by assumption) ?_ ?_; rotate_left; · (intro w hSw; (try dsimp only at hSw); go_simp; (first | done | with_reducible rfl)))); (try simp only [Act.put, List.setIfInBounds_toArray, List.set_cons_zero, List.set_cons_succ]))
      try ((first | (refine takeN 29 rfl (by kernel_rfl) (by decide +kernel) (by decide +kernel) (fun _ _ _ h => h) (by rfl) (by assumption) ?_) | (refine takeY 29 (v := ?_) rfl (by kernel_rfl) (by decide +kernel) (by decide +kernel) (fun _ _ _ h => h) (by rfl) (by assumption) ?_ ?_; rotate_left; · (intro w hSw; (try dsimp only at hSw); go_simp; (first | done | with_reducible rfl)))); (try simp only [Act.put, List.setIfInBounds_toArray, List.set_cons_zero, List.set_cons_succ]))
      try ((first | (refine takeN 31 rfl (by kernel_rfl) (by decide +kernel) (by decide +kernel) (fun _ _ _ h => h) (by rfl) (by assumption) ?_) | (refine takeY 31 (v := ?_) rfl (by kernel_rfl) (by decide +kernel) (by decide +kernel) (fun _ _ _ h => h) (by rfl) (by assumption) ?_ ?_; rotate_left; · (intro w hSw; (try dsimp only at hSw); go_simp; (first | done | with_reducible rfl)))); (try simp only [Act.put, List.setIfInBounds_toArray, List.set_cons_zero, List.set_cons_succ]))
      try (((refine takeY 32 (v := ?_) rfl (by kernel_rfl) (by decide +kernel) (by decide +kernel) (fun _ _ _ h => h) (by rfl) (by assumption) ?_ ?_; rotate_left; · (intro w hSw; (try dsimp only at hSw); go_simp; (first | done | with_reducible rfl)))); (try simp only [Act.put, List.setIfInBounds_toArray, List.set_cons_zero, List.set_cons_succ]))
      first
        | (refine takeN 30 rfl (by kernel_rfl) (by kernel_rfl) (by kernel_rfl) (fun _ _ _ h => h) (by rfl) (by assumption) ?_)
        | (refine stepH 30 rfl (by kernel_rfl) (by rfl) (fun K hK => ?_)
           go_simp
           ((with_reducible refine (rget_any rb _ _ n ps' (aftS n f fr ac pa) fr _ HS7.out.q HS7.out.sim HS7.out.inv.dom).mono ?_); rintro e w8 ⟨rfl, hb8⟩; have HS8 := Lib.hid (HS7.out.quiet hb8); have HG8 := Lib.hid (HG7.out.below hb8 HG7.out.lt); clear hb8; have g0 := (HG8.out.cell 0).trans rfl; have g1 := (HG8.out.cell 1).trans rfl; have g2 := (HG8.out.cell 2).trans rfl)
           (refine hK.out _ _ ?_ (fun hHeld => ?_))
           · exact ⟨g0, g1, g2⟩
           clear hK K)
      try ((first | (refine takeN 31 rfl (by kernel_rfl) (by decide +kernel) (by decide +kernel) (fun _ _ _ h => h) (by rfl) (by assumption) ?_) | (refine takeY 31 (v := ?_) rfl (by kernel_rfl) (by decide +kernel) (by decide +kernel) (fun _ _ _ h => h) (by rfl) (by assumption) ?_ ?_; rotate_left; · (intro w hSw; (try dsimp only at hSw); go_simp; (first | done | with_reducible rfl)))); (try simp only [Act.put, List.setIfInBounds_toArray, List.set_cons_zero, List.set_cons_succ]))
      try (((refine takeY 32 (v := ?_) rfl (by kernel_rfl) (by decide +kernel) (by decide +kernel) (fun _ _ _ h => h) (by rfl) (by assumption) ?_ ?_; rotate_left; · (intro w hSw; (try dsimp only at hSw); go_simp; (first | done | with_reducible rfl)))); (try simp only [Act.put, List.setIfInBounds_toArray, List.set_cons_zero, List.set_cons_succ]))
      refine wpAnyH_done (by kernel_rfl) ?_ _
      go_wp2
      exact ⟨⟨t + 1, _, _, by go_num, by omega, HS8.out⟩, by simp only [intOf]; omega⟩
    · have hlt' : m ≤ t ∨ (t < m ∧ 100 ≤ t) := by omega
      clear hlt
      rcases hlt' with h | ⟨h1, h2⟩
      · go_wp2_with fail
        obtain ⟨wo, rfl⟩ : ∃ wo : World, wo = wr := ⟨_, rfl⟩
        go_loopw [17] (RelLQ w (w.heap.size + 1) w.heap.size rb w1.heap.size w1.heap.size t n f ps) (fun i _ => (8 - intOf i).toNat)
        case atStart => exact ⟨-1, rfl, by omega, by omega, HS.out⟩
        case round =>
          obtain ⟨z, rfl, hz1, hz2, hls⟩ := hrel
          have HT := Lib.hid hls
          clear hls
          by_cases hz : z < 8
          · go_wp2_with fail
            refine (rlist_any rb _ _ n ps f z a3 _ HT.out.q HT.out.sim bn.2).mono ?_; rintro e w3 ⟨v3, rfl, hown3, hb3⟩
            obtain ⟨A3, c3, rfl⟩ := own_slice hown3
            have HT3 := Lib.hid (HT.out.quiet hb3)
            have HO3 := Lib.hid hown3
            clear hb3 hown3
            go_wp2_with fail
            refine (count_f _ _ t n f z a3 _ HT3.out.led (by omega) HT3.out.inv).mono ?_; rintro e w4 ⟨rfl, hb4⟩
            have HT4 := Lib.hid (HT3.out.quiet hb4)
            have HO4 := Lib.hid (own_below HO3.out hb4)
            clear hb4
            rw [show cntF n f z a3 = ((frs n).filter fun i => hasS (ent f i) z a3).length from rfl]
            go_wp2_with fail
            refine (list_any _ _ t n f z a3 _ HT4.out.led (by omega) HT4.out.inv.dom HT4.out.inv.nz).mono ?_; rintro e w5 ⟨v5, rfl, hown5, hb5⟩
            rw [show cntF n f z a3 = ((frs n).filter fun i => hasS (ent f i) z a3).length from rfl] at hown5
            obtain ⟨A5, c5, rfl⟩ := own_slice hown5
            have HT5 := Lib.hid (HT4.out.quiet hb5)
            have HO5 := Lib.hid (own_below HO4.out hb5)
            have HP5 := Lib.hid hown5
            have hlen : ((frs n).filter fun i => hasS (ent f i) z a3).length ≤ 300 := by
              have h1 := List.length_filter_le (fun i => hasS (ent f i) z a3) (frs n)
              have h2 := frs_len (n := (n : Int)) (by omega)
              omega
            clear hb5 hown5
            go_wp2_with fail
            refine (ints_any _ _ _ _ _ _ _ _ _ _ _ (Reads.of_own HP5.out) (Reads.of_own HO5.out) (by omega)).mono ?_; rintro e w6 ⟨rfl, hb6⟩
            rw [show decide ((frs n).filter (fun i => hasS (ent f i) z a3) = (frs n).filter (fun i => hasS (ent f i) z a3)) = true from by simp]
            have HT6 := Lib.hid (HT5.out.quiet hb6)
            clear hb6 hlen
            go_wp2
            exact ⟨⟨z + 1, rfl, by omega, by omega, HT6.out⟩, by simp only [intOf]; omega⟩
          · go_wp2_with fail
            refine (told_any _).mono ?_; rintro e w3 ⟨rfl, hb3⟩
            have HT3 := Lib.hid (HT.out.quiet hb3)
            clear hb3
            go_wp2_with fail
            refine (list_any _ _ t n f a2 (-1) _ HT3.out.led (by omega) HT3.out.inv.dom HT3.out.inv.nz).mono ?_; rintro e w4 ⟨v4, rfl, hown4, hb4⟩
            rw [show cntF n f a2 (-1) = ((frs n).filter fun i => hasS (ent f i) a2 (-1)).length from rfl] at hown4
            obtain ⟨A4, c4, rfl⟩ := own_slice hown4
            have HT4 := Lib.hid (HT3.out.quiet hb4)
            have HO4 := Lib.hid hown4
            clear hb4 hown4
            go_wp2_with fail
            refine (rlist_any rb _ _ n ps f a2 (-1) _ HT4.out.q HT4.out.sim bn.2).mono ?_; rintro e w5 ⟨v5, rfl, hown5, hb5⟩
            obtain ⟨A5, c5, rfl⟩ := own_slice hown5
            have HT5 := Lib.hid (HT4.out.quiet hb5)
            have HO5 := Lib.hid (own_below HO4.out hb5)
            have HP5 := Lib.hid hown5
            have hlen : ((frs n).filter fun i => hasS (ent f i) a2 (-1)).length ≤ 300 := by
              have h1 := List.length_filter_le (fun i => hasS (ent f i) a2 (-1)) (frs n)
              have h2 := frs_len (n := (n : Int)) (by omega)
              omega
            clear hb5 hown5
            go_wp2_with fail
            refine (ints_any _ _ _ _ _ _ _ _ _ _ _ (Reads.of_own HO5.out) (Reads.of_own HP5.out) (by omega)).mono ?_; rintro e w6 ⟨rfl, hb6⟩
            rw [show decide ((frs n).filter (fun i => hasS (ent f i) a2 (-1)) = (frs n).filter (fun i => hasS (ent f i) a2 (-1))) = true from by simp]
            have HT6 := Lib.hid (HT5.out.quiet hb6)
            clear hb6 hlen
            go_wp2_with fail
            refine (count_f _ _ t n f a2 (-1) _ HT6.out.led (by omega) HT6.out.inv).mono ?_; rintro e w7 ⟨rfl, hb7⟩
            rw [show cntF n f a2 (-1) = ((frs n).filter fun i => hasS (ent f i) a2 (-1)).length from rfl]
            have HT7 := Lib.hid (HT6.out.quiet hb7)
            clear hb7
            go_wp2_with fail
            refine (rlist_any rb _ _ n ps f a2 (-1) _ HT7.out.q HT7.out.sim bn.2).mono ?_; rintro e w8 ⟨v8, rfl, hown8, hb8⟩
            obtain ⟨A8, c8, rfl⟩ := own_slice hown8
            have HT8 := Lib.hid (HT7.out.quiet hb8)
            clear hb8 hown8
            go_wp2
            go_ret
            exact ⟨rfl, HT8.out.be⟩
      · go_wp2_with fail
        obtain ⟨wo, rfl⟩ : ∃ wo : World, wo = wr := ⟨_, rfl⟩
        go_loopw [17] (RelLQ w (w.heap.size + 1) w.heap.size rb w1.heap.size w1.heap.size t n f ps) (fun i _ => (8 - intOf i).toNat)
        case atStart => exact ⟨-1, rfl, by omega, by omega, HS.out⟩
        case round =>
          obtain ⟨z, rfl, hz1, hz2, hls⟩ := hrel
          have HT := Lib.hid hls
          clear hls
          by_cases hz : z < 8
          · go_wp2_with fail
            refine (rlist_any rb _ _ n ps f z a3 _ HT.out.q HT.out.sim bn.2).mono ?_; rintro e w3 ⟨v3, rfl, hown3, hb3⟩
            obtain ⟨A3, c3, rfl⟩ := own_slice hown3
            have HT3 := Lib.hid (HT.out.quiet hb3)
            have HO3 := Lib.hid hown3
            clear hb3 hown3
            go_wp2_with fail
            refine (count_f _ _ t n f z a3 _ HT3.out.led (by omega) HT3.out.inv).mono ?_; rintro e w4 ⟨rfl, hb4⟩
            have HT4 := Lib.hid (HT3.out.quiet hb4)
            have HO4 := Lib.hid (own_below HO3.out hb4)
            clear hb4
            rw [show cntF n f z a3 = ((frs n).filter fun i => hasS (ent f i) z a3).length from rfl]
            go_wp2_with fail
            refine (list_any _ _ t n f z a3 _ HT4.out.led (by omega) HT4.out.inv.dom HT4.out.inv.nz).mono ?_; rintro e w5 ⟨v5, rfl, hown5, hb5⟩
            rw [show cntF n f z a3 = ((frs n).filter fun i => hasS (ent f i) z a3).length from rfl] at hown5
            obtain ⟨A5, c5, rfl⟩ := own_slice hown5
            have HT5 := Lib.hid (HT4.out.quiet hb5)
            have HO5 := Lib.hid (own_below HO4.out hb5)
            have HP5 := Lib.hid hown5
            have hlen : ((frs n).filter fun i => hasS (ent f i) z a3).length ≤ 300 := by
              have h1 := List.length_filter_le (fun i => hasS (ent f i) z a3) (frs n)
              have h2 := frs_len (n := (n : Int)) (by omega)
              omega
            clear hb5 hown5
            go_wp2_with fail
            refine (ints_any _ _ _ _ _ _ _ _ _ _ _ (Reads.of_own HP5.out) (Reads.of_own HO5.out) (by omega)).mono ?_; rintro e w6 ⟨rfl, hb6⟩
            rw [show decide ((frs n).filter (fun i => hasS (ent f i) z a3) = (frs n).filter (fun i => hasS (ent f i) z a3)) = true from by simp]
            have HT6 := Lib.hid (HT5.out.quiet hb6)
            clear hb6 hlen
            go_wp2
            exact ⟨⟨z + 1, rfl, by omega, by omega, HT6.out⟩, by simp only [intOf]; omega⟩
          · go_wp2_with fail
            refine (told_any _).mono ?_; rintro e w3 ⟨rfl, hb3⟩
            have HT3 := Lib.hid (HT.out.quiet hb3)
            clear hb3
            go_wp2_with fail
            refine (list_any _ _ t n f a2 (-1) _ HT3.out.led (by omega) HT3.out.inv.dom HT3.out.inv.nz).mono ?_; rintro e w4 ⟨v4, rfl, hown4, hb4⟩
            rw [show cntF n f a2 (-1) = ((frs n).filter fun i => hasS (ent f i) a2 (-1)).length from rfl] at hown4
            obtain ⟨A4, c4, rfl⟩ := own_slice hown4
            have HT4 := Lib.hid (HT3.out.quiet hb4)
            have HO4 := Lib.hid hown4
            clear hb4 hown4
            go_wp2_with fail
            refine (rlist_any rb _ _ n ps f a2 (-1) _ HT4.out.q HT4.out.sim bn.2).mono ?_; rintro e w5 ⟨v5, rfl, hown5, hb5⟩
            obtain ⟨A5, c5, rfl⟩ := own_slice hown5
            have HT5 := Lib.hid (HT4.out.quiet hb5)
            have HO5 := Lib.hid (own_below HO4.out hb5)
            have HP5 := Lib.hid hown5
            have hlen : ((frs n).filter fun i => hasS (ent f i) a2 (-1)).length ≤ 300 := by
              have h1 := List.length_filter_le (fun i => hasS (ent f i) a2 (-1)) (frs n)
              have h2 := frs_len (n := (n : Int)) (by omega)
              omega
            clear hb5 hown5
            go_wp2_with fail
            refine (ints_any _ _ _ _ _ _ _ _ _ _ _ (Reads.of_own HO5.out) (Reads.of_own HP5.out) (by omega)).mono ?_; rintro e w6 ⟨rfl, hb6⟩
            rw [show decide ((frs n).filter (fun i => hasS (ent f i) a2 (-1)) = (frs n).filter (fun i => hasS (ent f i) a2 (-1))) = true from by simp]
            have HT6 := Lib.hid (HT5.out.quiet hb6)
            clear hb6 hlen
            go_wp2_with fail
            refine (count_f _ _ t n f a2 (-1) _ HT6.out.led (by omega) HT6.out.inv).mono ?_; rintro e w7 ⟨rfl, hb7⟩
            rw [show cntF n f a2 (-1) = ((frs n).filter fun i => hasS (ent f i) a2 (-1)).length from rfl]
            have HT7 := Lib.hid (HT6.out.quiet hb7)
            clear hb7
            go_wp2_with fail
            refine (rlist_any rb _ _ n ps f a2 (-1) _ HT7.out.q HT7.out.sim bn.2).mono ?_; rintro e w8 ⟨v8, rfl, hown8, hb8⟩
            obtain ⟨A8, c8, rfl⟩ := own_slice hown8
            have HT8 := Lib.hid (HT7.out.quiet hb8)
            clear hb8 hown8
            go_wp2
            go_ret
            exact ⟨rfl, HT8.out.be⟩
end Go.Proofs.Ytibklcjjdnhkdaa
