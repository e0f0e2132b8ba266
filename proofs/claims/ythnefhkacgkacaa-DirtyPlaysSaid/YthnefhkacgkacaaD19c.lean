/- A log does what the document says: DirtyPlays' walk. -/
import Derived.Test.YthnefhkacgkacaaDrs
import Derived.Test.YthnefhkacgkacaaOps
import Derived.Deep.DeepCutAuto
import Derived.Deep.CutBlock
namespace Go.Proofs.Ythnefhkacgkacaa
open Go.RowKit Mf

theorem RL.ds {w w' : World} {c B b B0 : Nat} {on : Bool} {v : Value} {xs : List Int} (h : RL w c B on v xs) (ho : Only (DS w b B0) w w') (hcb : c ≠ b) (hb : b < B) : RL w' c B on v xs := by
  refine ⟨h.blk.only ho ?_, own_ds h.own ho hb, h.lt⟩
  rintro (h1 | ⟨_, es, cl, hm⟩)
  · exact hcb h1
  · have := h.blk
    unfold Blk at this
    rw [this] at hm
    cases hm

theorem DirE.onlyc {w w' : World} {b B0 N c : Nat} {on : Bool} {P : Int → Bool} {t : TypeId} {cs : Array Value} (h : DirE w b B0 on P N) (hr : Blk w c t cs) (ho : Only (fun k => k = c) w w') (hcb : b ≠ c) : DirE w' b B0 on P N := by
  obtain ⟨mb, f, L, h1, h2⟩ := h
  exact ⟨mb, f, L, h1.only ho hcb (fun e => hr.not_map h1.m e.symm), h2⟩

theorem blk_ds {w w' : World} {b B0 g : Nat} {t : TypeId} {cs : Array Value} (h : Blk w g t cs) (ho : Only (DS w b B0) w w') (hg : g ≠ b) : Blk w' g t cs := by
  refine h.only ho ?_
  rintro (h1 | ⟨_, es, cl, hm⟩)
  · exact hg h1
  · unfold Blk at h
    rw [h] at hm
    cases hm

/-- What holds of the memory: both logs tell P. -/
structure PD (w wr : World) (b B0 c Br : Nat) (on : Bool) (P : Int → Bool) (N : Nat) (v : Value) (xs : List Int) : Prop where
  lg : DirE wr b B0 on P N
  rf : RL wr c Br on v xs
  sim : RSim xs P
  len : xs.length ≤ N
  be : Below w.heap.size w wr
  dist : w.heap.size ≤ B0 ∧ B0 < b ∧ b < c ∧ c < Br ∧ Br ≤ wr.heap.size

section
variable {w wr w2 w3 : World} {b B0 c Br N N' : Nat} {on on' : Bool} {P P' : Int → Bool} {v v' : Value} {xs ys : List Int}
theorem PD.quiet (h : PD w wr b B0 c Br on P N v xs) (hb : Below wr.heap.size wr w2) : PD w w2 b B0 c Br on P N v xs :=
  ⟨h.lg.below hb, h.rf.below hb, h.sim, h.len, h.be.trans (hb.mono h.be.size), by have := h.dist; have := hb.size; omega⟩
theorem PD.more (h : PD w wr b B0 c Br on P N v xs) (hN : N ≤ N') : PD w wr b B0 c Br on P N' v xs := ⟨h.lg.mono hN, h.rf, h.sim, Nat.le_trans h.len hN, h.be, h.dist⟩
theorem PD.mid (h : PD w wr b B0 c Br on P N v xs) (ho : Only (DS wr b B0) wr w2) : RL w2 c Br on v xs := h.rf.ds ho (by have := h.dist; omega) (by have := h.dist; omega)
theorem PD.midB (h : PD w wr b B0 c Br on P N v xs) (ho : Only (DS wr b B0) wr w2) : Below w.heap.size w w2 ∧ Br ≤ w2.heap.size :=
  ⟨h.be.trans (ho.to_below (by have := h.dist; rintro k (rfl | ⟨h1, _⟩) <;> omega) h.be.size), by have := h.dist; have := ho.size; omega⟩
/-- A step of both logs. -/
theorem PD.step (h : PD w wr b B0 c Br on P N v xs) (hl : DirE w2 b B0 on' P' N') (ho : Only (DS wr b B0) wr w2) (hr : RL w3 c Br on' v' ys) (ho3 : Only (fun k => k = c) w2 w3) (hs : RSim ys P') (hn : ys.length ≤ N') : PD w w3 b B0 c Br on' P' N' v' ys := by
  have hd := h.dist
  have h2 := h.mid ho
  obtain ⟨hb2, hz2⟩ := h.midB ho
  refine ⟨hl.onlyc h2.blk ho3 (by omega), hr, hs, hn, hb2.trans (ho3.to_below (by rintro k rfl; omega) hb2.size), ?_⟩
  have := ho3.size
  omega
end

theorem rsim_nil : RSim [] (fun _ => false) := ⟨.nil, fun p => by simp⟩
theorem tmod_bd8 (a : Int) : a.tmod 8 % 8 = 0 ∨ a.tmod 8 % 8 = 1 ∨ a.tmod 8 % 8 = 2 ∨ a.tmod 8 % 8 = 3 ∨ a.tmod 8 % 8 = 4 ∨ a.tmod 8 % 8 = 5 ∨ a.tmod 8 % 8 = 6 ∨ a.tmod 8 % 8 = 7 := by omega

def RelD (w : World) (b B0 c Br : Nat) (iv : Value) (wr : World) : Prop := ∃ (t : Nat) (on : Bool) (P : Int → Bool) (v : Value) (xs : List Int), iv = .int .i64 t ∧ t ≤ 100 ∧ PD w wr b B0 c Br on P t v xs
def CutD (w : World) (b B0 c Br t g6 : Nat) (cs : Array Value) (x y m n : Value) (wx : World) : Prop := ∃ (xv : Int) (mv on : Bool) (P : Int → Bool) (v : Value) (xs : List Int), x = .int .i64 xv ∧ y = .int .i64 xv ∧ m = .bool mv ∧ n = .bool mv ∧ PD w wx b B0 c Br on P (t + 1) v xs ∧ Blk wx g6 31 cs
def RelV (w : World) (b B0 c Br N g6 : Nat) (cs : Array Value) (base : Nat) (A : Option Addr) (n cc : Nat) (iv : Value) (wr : World) : Prop :=
  ∃ (q : Nat) (zs : List Int), iv = .int .i64 q ∧ q ≤ n ∧ PD w wr b B0 c Br true (fun _ => false) N (.slice none 0 0) [] ∧ Blk wr g6 31 cs ∧ wr.ownsRow base 29 1 (.slice A n cc) n (zs.map (Value.int .u64))

/-- A store into a row of the caller's own. -/
theorem PD.sown {w wr : World} {b B0 c Br N base n cc g : Nat} {on : Bool} {P : Int → Bool} {xs : List Value} (h : PD w wr b B0 c Br on P N (.slice none 0 0) []) (ho : wr.ownsRow base 29 1 (.slice (some ⟨g, 0, none⟩) n cc) n xs) {p : Addr} (hp : p.block = g) (hg : c < base) (u : Value) : PD w (wr.setCell p u) b B0 c Br on P N (.slice none 0 0) [] := by
  have hlt := (ho.lt g rfl).1
  have hd := h.dist
  have o1 : Only (fun k => k = g) wr (wr.setCell p u) := Only.setCell (S := fun k => k = g) (Only.refl _ wr) (.inl hp) u
  refine ⟨?_, ⟨h.rf.blk.only o1 (by omega), World.ownsRow_nil _ _ _ _, h.rf.lt⟩, h.sim, h.len, h.be.trans (o1.to_below (by rintro k rfl; omega) h.be.size), by simpa [World.setCell] using hd⟩
  obtain ⟨mb, f, L, h1, h2⟩ := h.lg
  refine ⟨mb, f, L, h1.only o1 (by omega) ?_, h2⟩
  rintro rfl
  obtain ⟨es, cl, hm⟩ := map_blk h1
  rcases ho.2 with ⟨h3, _⟩ | ⟨g', cap, cur, h3, _, h4, _⟩
  · cases h3
  · injection h3 with h3
    injection h3 with h3
    injection h3 with h3
    subst h3
    rw [h4] at hm
    cases hm

set_option maxRecDepth 100000 in
set_option maxHeartbeats 8000000 in
theorem dirtyPlays_walk (A : Option Addr) (m cA : Nat) (xa : List Value) (w : World) (hr : Reads w w.heap.size 2 A m xa) (hx : CellsR [.i .i64, .i .u64] xa) :
    Calls Try.prog 3 #[.slice A m cA] w fun e w' => e = .returned (.bool true) ∧ Below w.heap.size w w' := by
  have HR := Lib.hid hr
  have HX := Lib.hid hx
  clear hr hx
  go_enter Try.func3, Try.ntmps3
  go_wp2_with fail
  refine (dnew_any _).mono ?_; rintro e w1 ⟨rfl, h1, hb1⟩
  have H1 := Lib.hid h1
  have HB1 := Lib.hid hb1
  have hlt1 : w.heap.size + 1 < w1.heap.size := h1.lt
  clear h1 hb1
  go_wp2_with fail
  go_loopw [5] (RelD w (w.heap.size + 1) w.heap.size w1.heap.size (w1.heap.size + 1)) (fun i _ => 100 - (intOf i).toNat)
  case atStart =>
    have hbn := (Below.refl w1.heap.size w1).alloc (Nat.le_refl _) (.cells #[.bool false, .slice none 0 0] 28)
    exact ⟨0, false, _, .slice none 0 0, [], rfl, by omega, ⟨H1.out.below hbn, ⟨Blk.new w1 _ _, World.ownsRow_nil _ _ _ _, Nat.lt_succ_self _⟩, rsim_nil, Nat.le_refl _, HB1.out.trans (hbn.mono HB1.out.size), by simp; omega⟩⟩
  case round =>
    obtain ⟨t, on, P, v, xs, rfl, ht, hst⟩ := hrel
    have HS0 := Lib.hid hst
    clear hst
    by_cases hlt : t < m ∧ t < 100
    · obtain ⟨l1, l2⟩ := hlt
      obtain ⟨ad, rfl, hadb, hcell⟩ := (HR.out.below HS0.out.be).2 (by omega)
      have hlen := HR.out.1
      have hint : ∀ q k, q < 2 → ([.i .i64, .i .u64] : List CK)[q]? = some (.i k) → ∃ z, wr.cell? (ad.add (t * 2 + q)) = some (.int k z) ∧ (Lit.int k z).wf = true := fun q k hq hk => by
        have hq' : t * 2 + q < xa.length := by omega
        obtain ⟨z, hz, hwz⟩ := HX.out.int hq' (kind_at (ks := [.i .i64, .i .u64]) hq hk)
        exact ⟨z, hcell _ _ hz, hwz⟩
      obtain ⟨kd, hc0, _⟩ := hint 0 .i64 (by decide) rfl
      rw [Nat.add_zero] at hc0
      obtain ⟨pg, hc4, hwp⟩ := hint 1 .u64 (by decide) rfl
      rw [add_field' _ _ _ (by decide)] at hc4
      have hpg : 0 ≤ pg ∧ pg < 18446744073709551616 := by
        have := hwp
        simp [Lit.wf, IntKind.min, IntKind.max, IntKind.bits, IntKind.signed] at this
        omega
      have HPG := Lib.hid hpg
      clear hwp hpg
      obtain ⟨kr, hkr⟩ : ∃ kr, kd.tmod 8 % 8 = kr := ⟨_, rfl⟩
      have hkk := tmod_bd8 kd
      have hkr' : (kd.tmod 8 + 8) % 8 = kr := by rw [Int.add_emod_right]; exact hkr
      rw [hkr] at hkk
      have l3 : decide ((t : Int) < 100) = true := by simp; omega
      have hb8 := tmod_bdn kd 8 (by decide)
      have hbo := (Below.refl wr.heap.size wr).alloc (Nat.le_refl _) (.cells #[.int .i64 kd, .int .u64 pg] 31)
      have HS1 := Lib.hid (HS0.out.quiet hbo)
      have HG1 := Lib.hid (Blk.new wr 31 #[.int .i64 kd, .int .u64 pg])
      have hd0 := HS0.out.dist
      clear hcell hint hlen hbo
      go_upto_block 2 with (fail)
      rw [hkr']
      go_cut [7, 8, 9, 10] (CutD w (w.heap.size + 1) w.heap.size w1.heap.size (w1.heap.size + 1) t wr.heap.size #[.int .i64 kd, .int .u64 pg])
      case first =>
        clear hc0 hc4
        rcases hkk with rfl | rfl | rfl | rfl | rfl | rfl | rfl | rfl
        · cases on
          · go_wp2_with fail
            have HSd := Lib.hid (HS1.out.quiet (Below.refl _ _).drew)
            have HGd := Lib.hid HG1.out.drew
            have g1 := (HG1.out.cell 1).trans rfl
            have hne : wr.heap.size ≠ w.heap.size + 1 ∧ wr.heap.size ≠ w1.heap.size := by omega
            refine wp_region_held_drew (S := (fun w' => w'.cell? ⟨wr.heap.size, 1, none⟩ = some (.int .u64 pg))) (by kernel_rfl) ?_ (fun hHeld => ?_)
            · exact g1
            ((refine takeY 0 (v := ?_) rfl (by kernel_rfl) (by kernel_rfl) (by kernel_rfl) (fun _ _ _ h => h) (by rfl) (by assumption) ?_ ?_; rotate_left; · (intro w hSw; (try dsimp only at hSw); go_simp; (first | done | with_reducible rfl))))
            (try simp only [Act.put, List.setIfInBounds_toArray, List.set_cons_zero, List.set_cons_succ])
            ((refine takeY 1 (v := ?_) rfl (by kernel_rfl) (by kernel_rfl) (by kernel_rfl) (fun _ _ _ h => h) (by rfl) (by assumption) ?_ ?_; rotate_left; · (intro w hSw; (try dsimp only at hSw); go_simp; (first | done | with_reducible rfl))))
            (try simp only [Act.put, List.setIfInBounds_toArray, List.set_cons_zero, List.set_cons_succ])
            ((refine takeY 2 (v := ?_) rfl (by kernel_rfl) (by kernel_rfl) (by kernel_rfl) (fun _ _ _ h => h) (by rfl) (by assumption) ?_ ?_; rotate_left; · (intro w hSw; (try dsimp only at hSw); go_simp; (first | done | with_reducible rfl))))
            (try simp only [Act.put, List.setIfInBounds_toArray, List.set_cons_zero, List.set_cons_succ])
            try (((refine takeY 4 (v := ?_) rfl (by kernel_rfl) (by decide +kernel) (by decide +kernel) (fun _ _ _ h => h) (by rfl) (by assumption) ?_ ?_; rotate_left; · (intro w hSw; (try dsimp only at hSw); go_simp; (first | done | with_reducible rfl)))); (try simp only [Act.put, List.setIfInBounds_toArray, List.set_cons_zero, List.set_cons_succ]))
            try (((refine takeY 5 (v := ?_) rfl (by kernel_rfl) (by decide +kernel) (by decide +kernel) (fun _ _ _ h => h) (by rfl) (by assumption) ?_ ?_; rotate_left; · (intro w hSw; (try dsimp only at hSw); go_simp; (first | done | with_reducible rfl)))); (try simp only [Act.put, List.setIfInBounds_toArray, List.set_cons_zero, List.set_cons_succ]))
            try (((refine takeY 6 (v := ?_) rfl (by kernel_rfl) (by decide +kernel) (by decide +kernel) (fun _ _ _ h => h) (by rfl) (by assumption) ?_ ?_; rotate_left; · (intro w hSw; (try dsimp only at hSw); go_simp; (first | done | with_reducible rfl)))); (try simp only [Act.put, List.setIfInBounds_toArray, List.set_cons_zero, List.set_cons_succ]))
            first
              | (refine takeN 3 rfl (by kernel_rfl) (by kernel_rfl) (by kernel_rfl) (fun _ _ _ h => h) (by rfl) (by assumption) ?_)
              | (refine stepH 3 rfl (by kernel_rfl) (by rfl) (fun K hK => ?_)
                 go_simp
                 ((with_reducible refine (dnote_off _ _ _ _ pg _ HSd.out.lg).mono ?_); rintro e w2 ⟨rfl, rfl⟩)
                 (refine hK.out _ _ ?_ (fun hHeld => ?_))
                 · exact g1
                 clear hK K)
            try (((refine takeY 4 (v := ?_) rfl (by kernel_rfl) (by decide +kernel) (by decide +kernel) (fun _ _ _ h => h) (by rfl) (by assumption) ?_ ?_; rotate_left; · (intro w hSw; (try dsimp only at hSw); go_simp; (first | done | with_reducible rfl)))); (try simp only [Act.put, List.setIfInBounds_toArray, List.set_cons_zero, List.set_cons_succ]))
            try (((refine takeY 5 (v := ?_) rfl (by kernel_rfl) (by decide +kernel) (by decide +kernel) (fun _ _ _ h => h) (by rfl) (by assumption) ?_ ?_; rotate_left; · (intro w hSw; (try dsimp only at hSw); go_simp; (first | done | with_reducible rfl)))); (try simp only [Act.put, List.setIfInBounds_toArray, List.set_cons_zero, List.set_cons_succ]))
            try (((refine takeY 6 (v := ?_) rfl (by kernel_rfl) (by decide +kernel) (by decide +kernel) (fun _ _ _ h => h) (by rfl) (by assumption) ?_ ?_; rotate_left; · (intro w hSw; (try dsimp only at hSw); go_simp; (first | done | with_reducible rfl)))); (try simp only [Act.put, List.setIfInBounds_toArray, List.set_cons_zero, List.set_cons_succ]))
            first
              | (refine takeN 7 rfl (by kernel_rfl) (by kernel_rfl) (by kernel_rfl) (fun _ _ _ h => h) (by rfl) (by assumption) ?_)
              | (refine stepH 7 rfl (by kernel_rfl) (by rfl) (fun K hK => ?_)
                 go_simp
                 ((with_reducible refine (rnote_off _ _ _ _ pg _ HSd.out.rf (by have := HSd.out.len; omega)).mono ?_); rintro e w3 ⟨rfl, q3, rfl⟩; have HG3 := HGd.out.drewN q3; have g1 := (HG3.cell 1).trans rfl)
                 (refine hK.out _ _ ?_ (fun hHeld => ?_))
                 · exact g1
                 clear hK K)
            first
              | (refine takeN 8 rfl (by kernel_rfl) (by kernel_rfl) (by kernel_rfl) (fun _ _ _ h => h) (by rfl) (by assumption) ?_)
              | (refine stepH 8 rfl (by kernel_rfl) (by rfl) (fun K hK => ?_)
                 go_simp
                 skip
                 (refine hK.out _ _ ?_ (fun hHeld => ?_))
                 · exact g1
                 clear hK K)
            first
              | (refine takeN 9 rfl (by kernel_rfl) (by kernel_rfl) (by kernel_rfl) (fun _ _ _ h => h) (by rfl) (by assumption) ?_)
              | (refine stepH 9 rfl (by kernel_rfl) (by rfl) (fun K hK => ?_)
                 go_simp
                 skip
                 (refine hK.out _ _ ?_ (fun hHeld => ?_))
                 · exact g1
                 clear hK K)
            refine wpAnyH_done (by kernel_rfl) ?_ _
            go_wp2_with fail
            go_meet
            exact ⟨0, false, false, P, v, xs, rfl, rfl, rfl, rfl, (HS1.out.quiet (below_drewN (Below.refl _ _) _)).more (Nat.le_succ _), HG1.out.drewN _⟩
          · cases hP : P pg
            · have HP := Lib.hid hP
              clear hP
              go_wp2_with fail
              have HSd := Lib.hid (HS1.out.quiet (Below.refl _ _).drew)
              have HGd := Lib.hid HG1.out.drew
              have g1 := (HG1.out.cell 1).trans rfl
              have hne : wr.heap.size ≠ w.heap.size + 1 ∧ wr.heap.size ≠ w1.heap.size := by omega
              refine wp_region_held_drew (S := (fun w' => w'.cell? ⟨wr.heap.size, 1, none⟩ = some (.int .u64 pg))) (by kernel_rfl) ?_ (fun hHeld => ?_)
              · exact g1
              ((refine takeY 0 (v := ?_) rfl (by kernel_rfl) (by kernel_rfl) (by kernel_rfl) (fun _ _ _ h => h) (by rfl) (by assumption) ?_ ?_; rotate_left; · (intro w hSw; (try dsimp only at hSw); go_simp; (first | done | with_reducible rfl))))
              (try simp only [Act.put, List.setIfInBounds_toArray, List.set_cons_zero, List.set_cons_succ])
              ((refine takeY 1 (v := ?_) rfl (by kernel_rfl) (by kernel_rfl) (by kernel_rfl) (fun _ _ _ h => h) (by rfl) (by assumption) ?_ ?_; rotate_left; · (intro w hSw; (try dsimp only at hSw); go_simp; (first | done | with_reducible rfl))))
              (try simp only [Act.put, List.setIfInBounds_toArray, List.set_cons_zero, List.set_cons_succ])
              ((refine takeY 2 (v := ?_) rfl (by kernel_rfl) (by kernel_rfl) (by kernel_rfl) (fun _ _ _ h => h) (by rfl) (by assumption) ?_ ?_; rotate_left; · (intro w hSw; (try dsimp only at hSw); go_simp; (first | done | with_reducible rfl))))
              (try simp only [Act.put, List.setIfInBounds_toArray, List.set_cons_zero, List.set_cons_succ])
              try (((refine takeY 4 (v := ?_) rfl (by kernel_rfl) (by decide +kernel) (by decide +kernel) (fun _ _ _ h => h) (by rfl) (by assumption) ?_ ?_; rotate_left; · (intro w hSw; (try dsimp only at hSw); go_simp; (first | done | with_reducible rfl)))); (try simp only [Act.put, List.setIfInBounds_toArray, List.set_cons_zero, List.set_cons_succ]))
              try (((refine takeY 5 (v := ?_) rfl (by kernel_rfl) (by decide +kernel) (by decide +kernel) (fun _ _ _ h => h) (by rfl) (by assumption) ?_ ?_; rotate_left; · (intro w hSw; (try dsimp only at hSw); go_simp; (first | done | with_reducible rfl)))); (try simp only [Act.put, List.setIfInBounds_toArray, List.set_cons_zero, List.set_cons_succ]))
              try (((refine takeY 6 (v := ?_) rfl (by kernel_rfl) (by decide +kernel) (by decide +kernel) (fun _ _ _ h => h) (by rfl) (by assumption) ?_ ?_; rotate_left; · (intro w hSw; (try dsimp only at hSw); go_simp; (first | done | with_reducible rfl)))); (try simp only [Act.put, List.setIfInBounds_toArray, List.set_cons_zero, List.set_cons_succ]))
              first
                | (refine takeN 3 rfl (by kernel_rfl) (by kernel_rfl) (by kernel_rfl) (fun _ _ _ h => h) (by rfl) (by assumption) ?_)
                | (refine stepH 3 rfl (by kernel_rfl) (by rfl) (fun K hK => ?_)
                   go_simp
                   ((with_reducible refine (dnote_on _ _ _ _ pg _ HSd.out.lg HPG.out (by unfold maxLen; omega)).mono ?_); rintro e w2 ⟨rfl, h2, ho2⟩; have H2 := Lib.hid h2; have HO2 := Lib.hid ho2; have HM := Lib.hid (HSd.out.mid ho2); have HB2 := Lib.hid (HSd.out.midB ho2); have HG2 := Lib.hid (blk_ds HGd.out ho2 hne.1); clear h2 ho2; have g1 := (HG2.out.cell 1).trans rfl; rw [HP.out])
                   (refine hK.out _ _ ?_ (fun hHeld => ?_))
                   · exact g1
                   clear hK K)
              try (((refine takeY 4 (v := ?_) rfl (by kernel_rfl) (by decide +kernel) (by decide +kernel) (fun _ _ _ h => h) (by rfl) (by assumption) ?_ ?_; rotate_left; · (intro w hSw; (try dsimp only at hSw); go_simp; (first | done | with_reducible rfl)))); (try simp only [Act.put, List.setIfInBounds_toArray, List.set_cons_zero, List.set_cons_succ]))
              try (((refine takeY 5 (v := ?_) rfl (by kernel_rfl) (by decide +kernel) (by decide +kernel) (fun _ _ _ h => h) (by rfl) (by assumption) ?_ ?_; rotate_left; · (intro w hSw; (try dsimp only at hSw); go_simp; (first | done | with_reducible rfl)))); (try simp only [Act.put, List.setIfInBounds_toArray, List.set_cons_zero, List.set_cons_succ]))
              try (((refine takeY 6 (v := ?_) rfl (by kernel_rfl) (by decide +kernel) (by decide +kernel) (fun _ _ _ h => h) (by rfl) (by assumption) ?_ ?_; rotate_left; · (intro w hSw; (try dsimp only at hSw); go_simp; (first | done | with_reducible rfl)))); (try simp only [Act.put, List.setIfInBounds_toArray, List.set_cons_zero, List.set_cons_succ]))
              first
                | (refine takeN 7 rfl (by kernel_rfl) (by kernel_rfl) (by kernel_rfl) (fun _ _ _ h => h) (by rfl) (by assumption) ?_)
                | (refine stepH 7 rfl (by kernel_rfl) (by rfl) (fun K hK => ?_)
                   go_simp
                   ((with_reducible refine (rnote_new _ _ _ _ _ pg _ HM.out HSd.out.sim (by have := HSd.out.len; omega) HB2.out.2 HP.out).mono ?_); rintro e w3 ⟨ys, hs3, hl3, rfl, v3, hr3, ho3⟩; have HG3 := HG2.out.only ho3 (fun e => hne.2 e); have g1 := (HG3.cell 1).trans rfl)
                   (refine hK.out _ _ ?_ (fun hHeld => ?_))
                   · exact g1
                   clear hK K)
              first
                | (refine takeN 8 rfl (by kernel_rfl) (by kernel_rfl) (by kernel_rfl) (fun _ _ _ h => h) (by rfl) (by assumption) ?_)
                | (refine stepH 8 rfl (by kernel_rfl) (by rfl) (fun K hK => ?_)
                   go_simp
                   skip
                   (refine hK.out _ _ ?_ (fun hHeld => ?_))
                   · exact g1
                   clear hK K)
              first
                | (refine takeN 9 rfl (by kernel_rfl) (by kernel_rfl) (by kernel_rfl) (fun _ _ _ h => h) (by rfl) (by assumption) ?_)
                | (refine stepH 9 rfl (by kernel_rfl) (by rfl) (fun K hK => ?_)
                   go_simp
                   skip
                   (refine hK.out _ _ ?_ (fun hHeld => ?_))
                   · exact g1
                   clear hK K)
              refine wpAnyH_done (by kernel_rfl) ?_ _
              go_wp2_with fail
              go_meet
              exact ⟨0, true, true, _, v3, ys, rfl, rfl, rfl, rfl, HSd.out.step H2.out HO2.out hr3 ho3 hs3 (by have := HSd.out.len; omega), HG3⟩
            · have HP := Lib.hid hP
              have HPE := Lib.hid (P_set hP)
              clear hP
              go_wp2_with fail
              have HSd := Lib.hid (HS1.out.quiet (Below.refl _ _).drew)
              have HGd := Lib.hid HG1.out.drew
              have g1 := (HG1.out.cell 1).trans rfl
              have hne : wr.heap.size ≠ w.heap.size + 1 ∧ wr.heap.size ≠ w1.heap.size := by omega
              refine wp_region_held_drew (S := (fun w' => w'.cell? ⟨wr.heap.size, 1, none⟩ = some (.int .u64 pg))) (by kernel_rfl) ?_ (fun hHeld => ?_)
              · exact g1
              ((refine takeY 0 (v := ?_) rfl (by kernel_rfl) (by kernel_rfl) (by kernel_rfl) (fun _ _ _ h => h) (by rfl) (by assumption) ?_ ?_; rotate_left; · (intro w hSw; (try dsimp only at hSw); go_simp; (first | done | with_reducible rfl))))
              (try simp only [Act.put, List.setIfInBounds_toArray, List.set_cons_zero, List.set_cons_succ])
              ((refine takeY 1 (v := ?_) rfl (by kernel_rfl) (by kernel_rfl) (by kernel_rfl) (fun _ _ _ h => h) (by rfl) (by assumption) ?_ ?_; rotate_left; · (intro w hSw; (try dsimp only at hSw); go_simp; (first | done | with_reducible rfl))))
              (try simp only [Act.put, List.setIfInBounds_toArray, List.set_cons_zero, List.set_cons_succ])
              ((refine takeY 2 (v := ?_) rfl (by kernel_rfl) (by kernel_rfl) (by kernel_rfl) (fun _ _ _ h => h) (by rfl) (by assumption) ?_ ?_; rotate_left; · (intro w hSw; (try dsimp only at hSw); go_simp; (first | done | with_reducible rfl))))
              (try simp only [Act.put, List.setIfInBounds_toArray, List.set_cons_zero, List.set_cons_succ])
              try (((refine takeY 4 (v := ?_) rfl (by kernel_rfl) (by decide +kernel) (by decide +kernel) (fun _ _ _ h => h) (by rfl) (by assumption) ?_ ?_; rotate_left; · (intro w hSw; (try dsimp only at hSw); go_simp; (first | done | with_reducible rfl)))); (try simp only [Act.put, List.setIfInBounds_toArray, List.set_cons_zero, List.set_cons_succ]))
              try (((refine takeY 5 (v := ?_) rfl (by kernel_rfl) (by decide +kernel) (by decide +kernel) (fun _ _ _ h => h) (by rfl) (by assumption) ?_ ?_; rotate_left; · (intro w hSw; (try dsimp only at hSw); go_simp; (first | done | with_reducible rfl)))); (try simp only [Act.put, List.setIfInBounds_toArray, List.set_cons_zero, List.set_cons_succ]))
              try (((refine takeY 6 (v := ?_) rfl (by kernel_rfl) (by decide +kernel) (by decide +kernel) (fun _ _ _ h => h) (by rfl) (by assumption) ?_ ?_; rotate_left; · (intro w hSw; (try dsimp only at hSw); go_simp; (first | done | with_reducible rfl)))); (try simp only [Act.put, List.setIfInBounds_toArray, List.set_cons_zero, List.set_cons_succ]))
              first
                | (refine takeN 3 rfl (by kernel_rfl) (by kernel_rfl) (by kernel_rfl) (fun _ _ _ h => h) (by rfl) (by assumption) ?_)
                | (refine stepH 3 rfl (by kernel_rfl) (by rfl) (fun K hK => ?_)
                   go_simp
                   ((with_reducible refine (dnote_on _ _ _ _ pg _ HSd.out.lg HPG.out (by unfold maxLen; omega)).mono ?_); rintro e w2 ⟨rfl, h2, ho2⟩; have H2 := Lib.hid h2; have HO2 := Lib.hid ho2; have HM := Lib.hid (HSd.out.mid ho2); have HB2 := Lib.hid (HSd.out.midB ho2); have HG2 := Lib.hid (blk_ds HGd.out ho2 hne.1); clear h2 ho2; have g1 := (HG2.out.cell 1).trans rfl; rw [HP.out])
                   (refine hK.out _ _ ?_ (fun hHeld => ?_))
                   · exact g1
                   clear hK K)
              try (((refine takeY 4 (v := ?_) rfl (by kernel_rfl) (by decide +kernel) (by decide +kernel) (fun _ _ _ h => h) (by rfl) (by assumption) ?_ ?_; rotate_left; · (intro w hSw; (try dsimp only at hSw); go_simp; (first | done | with_reducible rfl)))); (try simp only [Act.put, List.setIfInBounds_toArray, List.set_cons_zero, List.set_cons_succ]))
              try (((refine takeY 5 (v := ?_) rfl (by kernel_rfl) (by decide +kernel) (by decide +kernel) (fun _ _ _ h => h) (by rfl) (by assumption) ?_ ?_; rotate_left; · (intro w hSw; (try dsimp only at hSw); go_simp; (first | done | with_reducible rfl)))); (try simp only [Act.put, List.setIfInBounds_toArray, List.set_cons_zero, List.set_cons_succ]))
              try (((refine takeY 6 (v := ?_) rfl (by kernel_rfl) (by decide +kernel) (by decide +kernel) (fun _ _ _ h => h) (by rfl) (by assumption) ?_ ?_; rotate_left; · (intro w hSw; (try dsimp only at hSw); go_simp; (first | done | with_reducible rfl)))); (try simp only [Act.put, List.setIfInBounds_toArray, List.set_cons_zero, List.set_cons_succ]))
              first
                | (refine takeN 7 rfl (by kernel_rfl) (by kernel_rfl) (by kernel_rfl) (fun _ _ _ h => h) (by rfl) (by assumption) ?_)
                | (refine stepH 7 rfl (by kernel_rfl) (by rfl) (fun K hK => ?_)
                   go_simp
                   ((with_reducible refine (rnote_old _ _ _ _ _ _ pg _ HM.out HSd.out.sim (by have := HSd.out.len; omega) HP.out).mono ?_); rintro e w3 ⟨rfl, q3, rfl⟩; have HG3 := HG2.out.drewN q3; have g1 := (HG3.cell 1).trans rfl)
                   (refine hK.out _ _ ?_ (fun hHeld => ?_))
                   · exact g1
                   clear hK K)
              first
                | (refine takeN 8 rfl (by kernel_rfl) (by kernel_rfl) (by kernel_rfl) (fun _ _ _ h => h) (by rfl) (by assumption) ?_)
                | (refine stepH 8 rfl (by kernel_rfl) (by rfl) (fun K hK => ?_)
                   go_simp
                   skip
                   (refine hK.out _ _ ?_ (fun hHeld => ?_))
                   · exact g1
                   clear hK K)
              first
                | (refine takeN 9 rfl (by kernel_rfl) (by kernel_rfl) (by kernel_rfl) (fun _ _ _ h => h) (by rfl) (by assumption) ?_)
                | (refine stepH 9 rfl (by kernel_rfl) (by rfl) (fun K hK => ?_)
                   go_simp
                   skip
                   (refine hK.out _ _ ?_ (fun hHeld => ?_))
                   · exact g1
                   clear hK K)
              refine wpAnyH_done (by kernel_rfl) ?_ _
              go_wp2_with fail
              go_meet
              exact ⟨0, false, true, _, v, xs, rfl, rfl, rfl, rfl, HSd.out.step H2.out HO2.out (HM.out.drewN q3) ((Only.refl _ _).drewN q3) (by rw [HPE.out]; exact HSd.out.sim) (by have := HSd.out.len; omega), HG3⟩
        · cases on
          · go_wp2_with fail
            have HSd := Lib.hid (HS1.out.quiet (Below.refl _ _).drew)
            have HGd := Lib.hid HG1.out.drew
            have g1 := (HG1.out.cell 1).trans rfl
            have hne : wr.heap.size ≠ w.heap.size + 1 ∧ wr.heap.size ≠ w1.heap.size := by omega
            refine wp_region_held_drew (S := (fun w' => w'.cell? ⟨wr.heap.size, 1, none⟩ = some (.int .u64 pg))) (by kernel_rfl) ?_ (fun hHeld => ?_)
            · exact g1
            ((refine takeY 0 (v := ?_) rfl (by kernel_rfl) (by kernel_rfl) (by kernel_rfl) (fun _ _ _ h => h) (by rfl) (by assumption) ?_ ?_; rotate_left; · (intro w hSw; (try dsimp only at hSw); go_simp; (first | done | with_reducible rfl))))
            (try simp only [Act.put, List.setIfInBounds_toArray, List.set_cons_zero, List.set_cons_succ])
            ((refine takeY 1 (v := ?_) rfl (by kernel_rfl) (by kernel_rfl) (by kernel_rfl) (fun _ _ _ h => h) (by rfl) (by assumption) ?_ ?_; rotate_left; · (intro w hSw; (try dsimp only at hSw); go_simp; (first | done | with_reducible rfl))))
            (try simp only [Act.put, List.setIfInBounds_toArray, List.set_cons_zero, List.set_cons_succ])
            ((refine takeY 2 (v := ?_) rfl (by kernel_rfl) (by kernel_rfl) (by kernel_rfl) (fun _ _ _ h => h) (by rfl) (by assumption) ?_ ?_; rotate_left; · (intro w hSw; (try dsimp only at hSw); go_simp; (first | done | with_reducible rfl))))
            (try simp only [Act.put, List.setIfInBounds_toArray, List.set_cons_zero, List.set_cons_succ])
            try (((refine takeY 4 (v := ?_) rfl (by kernel_rfl) (by decide +kernel) (by decide +kernel) (fun _ _ _ h => h) (by rfl) (by assumption) ?_ ?_; rotate_left; · (intro w hSw; (try dsimp only at hSw); go_simp; (first | done | with_reducible rfl)))); (try simp only [Act.put, List.setIfInBounds_toArray, List.set_cons_zero, List.set_cons_succ]))
            try (((refine takeY 5 (v := ?_) rfl (by kernel_rfl) (by decide +kernel) (by decide +kernel) (fun _ _ _ h => h) (by rfl) (by assumption) ?_ ?_; rotate_left; · (intro w hSw; (try dsimp only at hSw); go_simp; (first | done | with_reducible rfl)))); (try simp only [Act.put, List.setIfInBounds_toArray, List.set_cons_zero, List.set_cons_succ]))
            try (((refine takeY 6 (v := ?_) rfl (by kernel_rfl) (by decide +kernel) (by decide +kernel) (fun _ _ _ h => h) (by rfl) (by assumption) ?_ ?_; rotate_left; · (intro w hSw; (try dsimp only at hSw); go_simp; (first | done | with_reducible rfl)))); (try simp only [Act.put, List.setIfInBounds_toArray, List.set_cons_zero, List.set_cons_succ]))
            first
              | (refine takeN 3 rfl (by kernel_rfl) (by kernel_rfl) (by kernel_rfl) (fun _ _ _ h => h) (by rfl) (by assumption) ?_)
              | (refine stepH 3 rfl (by kernel_rfl) (by rfl) (fun K hK => ?_)
                 go_simp
                 ((with_reducible refine (dnote_off _ _ _ _ pg _ HSd.out.lg).mono ?_); rintro e w2 ⟨rfl, rfl⟩)
                 (refine hK.out _ _ ?_ (fun hHeld => ?_))
                 · exact g1
                 clear hK K)
            try (((refine takeY 4 (v := ?_) rfl (by kernel_rfl) (by decide +kernel) (by decide +kernel) (fun _ _ _ h => h) (by rfl) (by assumption) ?_ ?_; rotate_left; · (intro w hSw; (try dsimp only at hSw); go_simp; (first | done | with_reducible rfl)))); (try simp only [Act.put, List.setIfInBounds_toArray, List.set_cons_zero, List.set_cons_succ]))
            try (((refine takeY 5 (v := ?_) rfl (by kernel_rfl) (by decide +kernel) (by decide +kernel) (fun _ _ _ h => h) (by rfl) (by assumption) ?_ ?_; rotate_left; · (intro w hSw; (try dsimp only at hSw); go_simp; (first | done | with_reducible rfl)))); (try simp only [Act.put, List.setIfInBounds_toArray, List.set_cons_zero, List.set_cons_succ]))
            try (((refine takeY 6 (v := ?_) rfl (by kernel_rfl) (by decide +kernel) (by decide +kernel) (fun _ _ _ h => h) (by rfl) (by assumption) ?_ ?_; rotate_left; · (intro w hSw; (try dsimp only at hSw); go_simp; (first | done | with_reducible rfl)))); (try simp only [Act.put, List.setIfInBounds_toArray, List.set_cons_zero, List.set_cons_succ]))
            first
              | (refine takeN 7 rfl (by kernel_rfl) (by kernel_rfl) (by kernel_rfl) (fun _ _ _ h => h) (by rfl) (by assumption) ?_)
              | (refine stepH 7 rfl (by kernel_rfl) (by rfl) (fun K hK => ?_)
                 go_simp
                 ((with_reducible refine (rnote_off _ _ _ _ pg _ HSd.out.rf (by have := HSd.out.len; omega)).mono ?_); rintro e w3 ⟨rfl, q3, rfl⟩; have HG3 := HGd.out.drewN q3; have g1 := (HG3.cell 1).trans rfl)
                 (refine hK.out _ _ ?_ (fun hHeld => ?_))
                 · exact g1
                 clear hK K)
            first
              | (refine takeN 8 rfl (by kernel_rfl) (by kernel_rfl) (by kernel_rfl) (fun _ _ _ h => h) (by rfl) (by assumption) ?_)
              | (refine stepH 8 rfl (by kernel_rfl) (by rfl) (fun K hK => ?_)
                 go_simp
                 skip
                 (refine hK.out _ _ ?_ (fun hHeld => ?_))
                 · exact g1
                 clear hK K)
            first
              | (refine takeN 9 rfl (by kernel_rfl) (by kernel_rfl) (by kernel_rfl) (fun _ _ _ h => h) (by rfl) (by assumption) ?_)
              | (refine stepH 9 rfl (by kernel_rfl) (by rfl) (fun K hK => ?_)
                 go_simp
                 skip
                 (refine hK.out _ _ ?_ (fun hHeld => ?_))
                 · exact g1
                 clear hK K)
            refine wpAnyH_done (by kernel_rfl) ?_ _
            go_wp2_with fail
            go_meet
            exact ⟨0, false, false, P, v, xs, rfl, rfl, rfl, rfl, (HS1.out.quiet (below_drewN (Below.refl _ _) _)).more (Nat.le_succ _), HG1.out.drewN _⟩
          · cases hP : P pg
            · have HP := Lib.hid hP
              clear hP
              go_wp2_with fail
              have HSd := Lib.hid (HS1.out.quiet (Below.refl _ _).drew)
              have HGd := Lib.hid HG1.out.drew
              have g1 := (HG1.out.cell 1).trans rfl
              have hne : wr.heap.size ≠ w.heap.size + 1 ∧ wr.heap.size ≠ w1.heap.size := by omega
              refine wp_region_held_drew (S := (fun w' => w'.cell? ⟨wr.heap.size, 1, none⟩ = some (.int .u64 pg))) (by kernel_rfl) ?_ (fun hHeld => ?_)
              · exact g1
              ((refine takeY 0 (v := ?_) rfl (by kernel_rfl) (by kernel_rfl) (by kernel_rfl) (fun _ _ _ h => h) (by rfl) (by assumption) ?_ ?_; rotate_left; · (intro w hSw; (try dsimp only at hSw); go_simp; (first | done | with_reducible rfl))))
              (try simp only [Act.put, List.setIfInBounds_toArray, List.set_cons_zero, List.set_cons_succ])
              ((refine takeY 1 (v := ?_) rfl (by kernel_rfl) (by kernel_rfl) (by kernel_rfl) (fun _ _ _ h => h) (by rfl) (by assumption) ?_ ?_; rotate_left; · (intro w hSw; (try dsimp only at hSw); go_simp; (first | done | with_reducible rfl))))
              (try simp only [Act.put, List.setIfInBounds_toArray, List.set_cons_zero, List.set_cons_succ])
              ((refine takeY 2 (v := ?_) rfl (by kernel_rfl) (by kernel_rfl) (by kernel_rfl) (fun _ _ _ h => h) (by rfl) (by assumption) ?_ ?_; rotate_left; · (intro w hSw; (try dsimp only at hSw); go_simp; (first | done | with_reducible rfl))))
              (try simp only [Act.put, List.setIfInBounds_toArray, List.set_cons_zero, List.set_cons_succ])
              try (((refine takeY 4 (v := ?_) rfl (by kernel_rfl) (by decide +kernel) (by decide +kernel) (fun _ _ _ h => h) (by rfl) (by assumption) ?_ ?_; rotate_left; · (intro w hSw; (try dsimp only at hSw); go_simp; (first | done | with_reducible rfl)))); (try simp only [Act.put, List.setIfInBounds_toArray, List.set_cons_zero, List.set_cons_succ]))
              try (((refine takeY 5 (v := ?_) rfl (by kernel_rfl) (by decide +kernel) (by decide +kernel) (fun _ _ _ h => h) (by rfl) (by assumption) ?_ ?_; rotate_left; · (intro w hSw; (try dsimp only at hSw); go_simp; (first | done | with_reducible rfl)))); (try simp only [Act.put, List.setIfInBounds_toArray, List.set_cons_zero, List.set_cons_succ]))
              try (((refine takeY 6 (v := ?_) rfl (by kernel_rfl) (by decide +kernel) (by decide +kernel) (fun _ _ _ h => h) (by rfl) (by assumption) ?_ ?_; rotate_left; · (intro w hSw; (try dsimp only at hSw); go_simp; (first | done | with_reducible rfl)))); (try simp only [Act.put, List.setIfInBounds_toArray, List.set_cons_zero, List.set_cons_succ]))
              first
                | (refine takeN 3 rfl (by kernel_rfl) (by kernel_rfl) (by kernel_rfl) (fun _ _ _ h => h) (by rfl) (by assumption) ?_)
                | (refine stepH 3 rfl (by kernel_rfl) (by rfl) (fun K hK => ?_)
                   go_simp
                   ((with_reducible refine (dnote_on _ _ _ _ pg _ HSd.out.lg HPG.out (by unfold maxLen; omega)).mono ?_); rintro e w2 ⟨rfl, h2, ho2⟩; have H2 := Lib.hid h2; have HO2 := Lib.hid ho2; have HM := Lib.hid (HSd.out.mid ho2); have HB2 := Lib.hid (HSd.out.midB ho2); have HG2 := Lib.hid (blk_ds HGd.out ho2 hne.1); clear h2 ho2; have g1 := (HG2.out.cell 1).trans rfl; rw [HP.out])
                   (refine hK.out _ _ ?_ (fun hHeld => ?_))
                   · exact g1
                   clear hK K)
              try (((refine takeY 4 (v := ?_) rfl (by kernel_rfl) (by decide +kernel) (by decide +kernel) (fun _ _ _ h => h) (by rfl) (by assumption) ?_ ?_; rotate_left; · (intro w hSw; (try dsimp only at hSw); go_simp; (first | done | with_reducible rfl)))); (try simp only [Act.put, List.setIfInBounds_toArray, List.set_cons_zero, List.set_cons_succ]))
              try (((refine takeY 5 (v := ?_) rfl (by kernel_rfl) (by decide +kernel) (by decide +kernel) (fun _ _ _ h => h) (by rfl) (by assumption) ?_ ?_; rotate_left; · (intro w hSw; (try dsimp only at hSw); go_simp; (first | done | with_reducible rfl)))); (try simp only [Act.put, List.setIfInBounds_toArray, List.set_cons_zero, List.set_cons_succ]))
              try (((refine takeY 6 (v := ?_) rfl (by kernel_rfl) (by decide +kernel) (by decide +kernel) (fun _ _ _ h => h) (by rfl) (by assumption) ?_ ?_; rotate_left; · (intro w hSw; (try dsimp only at hSw); go_simp; (first | done | with_reducible rfl)))); (try simp only [Act.put, List.setIfInBounds_toArray, List.set_cons_zero, List.set_cons_succ]))
              first
                | (refine takeN 7 rfl (by kernel_rfl) (by kernel_rfl) (by kernel_rfl) (fun _ _ _ h => h) (by rfl) (by assumption) ?_)
                | (refine stepH 7 rfl (by kernel_rfl) (by rfl) (fun K hK => ?_)
                   go_simp
                   ((with_reducible refine (rnote_new _ _ _ _ _ pg _ HM.out HSd.out.sim (by have := HSd.out.len; omega) HB2.out.2 HP.out).mono ?_); rintro e w3 ⟨ys, hs3, hl3, rfl, v3, hr3, ho3⟩; have HG3 := HG2.out.only ho3 (fun e => hne.2 e); have g1 := (HG3.cell 1).trans rfl)
                   (refine hK.out _ _ ?_ (fun hHeld => ?_))
                   · exact g1
                   clear hK K)
              first
                | (refine takeN 8 rfl (by kernel_rfl) (by kernel_rfl) (by kernel_rfl) (fun _ _ _ h => h) (by rfl) (by assumption) ?_)
                | (refine stepH 8 rfl (by kernel_rfl) (by rfl) (fun K hK => ?_)
                   go_simp
                   skip
                   (refine hK.out _ _ ?_ (fun hHeld => ?_))
                   · exact g1
                   clear hK K)
              first
                | (refine takeN 9 rfl (by kernel_rfl) (by kernel_rfl) (by kernel_rfl) (fun _ _ _ h => h) (by rfl) (by assumption) ?_)
                | (refine stepH 9 rfl (by kernel_rfl) (by rfl) (fun K hK => ?_)
                   go_simp
                   skip
                   (refine hK.out _ _ ?_ (fun hHeld => ?_))
                   · exact g1
                   clear hK K)
              refine wpAnyH_done (by kernel_rfl) ?_ _
              go_wp2_with fail
              go_meet
              exact ⟨0, true, true, _, v3, ys, rfl, rfl, rfl, rfl, HSd.out.step H2.out HO2.out hr3 ho3 hs3 (by have := HSd.out.len; omega), HG3⟩
            · have HP := Lib.hid hP
              have HPE := Lib.hid (P_set hP)
              clear hP
              go_wp2_with fail
              have HSd := Lib.hid (HS1.out.quiet (Below.refl _ _).drew)
              have HGd := Lib.hid HG1.out.drew
              have g1 := (HG1.out.cell 1).trans rfl
              have hne : wr.heap.size ≠ w.heap.size + 1 ∧ wr.heap.size ≠ w1.heap.size := by omega
              refine wp_region_held_drew (S := (fun w' => w'.cell? ⟨wr.heap.size, 1, none⟩ = some (.int .u64 pg))) (by kernel_rfl) ?_ (fun hHeld => ?_)
              · exact g1
              ((refine takeY 0 (v := ?_) rfl (by kernel_rfl) (by kernel_rfl) (by kernel_rfl) (fun _ _ _ h => h) (by rfl) (by assumption) ?_ ?_; rotate_left; · (intro w hSw; (try dsimp only at hSw); go_simp; (first | done | with_reducible rfl))))
              (try simp only [Act.put, List.setIfInBounds_toArray, List.set_cons_zero, List.set_cons_succ])
              ((refine takeY 1 (v := ?_) rfl (by kernel_rfl) (by kernel_rfl) (by kernel_rfl) (fun _ _ _ h => h) (by rfl) (by assumption) ?_ ?_; rotate_left; · (intro w hSw; (try dsimp only at hSw); go_simp; (first | done | with_reducible rfl))))
              (try simp only [Act.put, List.setIfInBounds_toArray, List.set_cons_zero, List.set_cons_succ])
              ((refine takeY 2 (v := ?_) rfl (by kernel_rfl) (by kernel_rfl) (by kernel_rfl) (fun _ _ _ h => h) (by rfl) (by assumption) ?_ ?_; rotate_left; · (intro w hSw; (try dsimp only at hSw); go_simp; (first | done | with_reducible rfl))))
              (try simp only [Act.put, List.setIfInBounds_toArray, List.set_cons_zero, List.set_cons_succ])
              try (((refine takeY 4 (v := ?_) rfl (by kernel_rfl) (by decide +kernel) (by decide +kernel) (fun _ _ _ h => h) (by rfl) (by assumption) ?_ ?_; rotate_left; · (intro w hSw; (try dsimp only at hSw); go_simp; (first | done | with_reducible rfl)))); (try simp only [Act.put, List.setIfInBounds_toArray, List.set_cons_zero, List.set_cons_succ]))
              try (((refine takeY 5 (v := ?_) rfl (by kernel_rfl) (by decide +kernel) (by decide +kernel) (fun _ _ _ h => h) (by rfl) (by assumption) ?_ ?_; rotate_left; · (intro w hSw; (try dsimp only at hSw); go_simp; (first | done | with_reducible rfl)))); (try simp only [Act.put, List.setIfInBounds_toArray, List.set_cons_zero, List.set_cons_succ]))
              try (((refine takeY 6 (v := ?_) rfl (by kernel_rfl) (by decide +kernel) (by decide +kernel) (fun _ _ _ h => h) (by rfl) (by assumption) ?_ ?_; rotate_left; · (intro w hSw; (try dsimp only at hSw); go_simp; (first | done | with_reducible rfl)))); (try simp only [Act.put, List.setIfInBounds_toArray, List.set_cons_zero, List.set_cons_succ]))
              first
                | (refine takeN 3 rfl (by kernel_rfl) (by kernel_rfl) (by kernel_rfl) (fun _ _ _ h => h) (by rfl) (by assumption) ?_)
                | (refine stepH 3 rfl (by kernel_rfl) (by rfl) (fun K hK => ?_)
                   go_simp
                   ((with_reducible refine (dnote_on _ _ _ _ pg _ HSd.out.lg HPG.out (by unfold maxLen; omega)).mono ?_); rintro e w2 ⟨rfl, h2, ho2⟩; have H2 := Lib.hid h2; have HO2 := Lib.hid ho2; have HM := Lib.hid (HSd.out.mid ho2); have HB2 := Lib.hid (HSd.out.midB ho2); have HG2 := Lib.hid (blk_ds HGd.out ho2 hne.1); clear h2 ho2; have g1 := (HG2.out.cell 1).trans rfl; rw [HP.out])
                   (refine hK.out _ _ ?_ (fun hHeld => ?_))
                   · exact g1
                   clear hK K)
              try (((refine takeY 4 (v := ?_) rfl (by kernel_rfl) (by decide +kernel) (by decide +kernel) (fun _ _ _ h => h) (by rfl) (by assumption) ?_ ?_; rotate_left; · (intro w hSw; (try dsimp only at hSw); go_simp; (first | done | with_reducible rfl)))); (try simp only [Act.put, List.setIfInBounds_toArray, List.set_cons_zero, List.set_cons_succ]))
              try (((refine takeY 5 (v := ?_) rfl (by kernel_rfl) (by decide +kernel) (by decide +kernel) (fun _ _ _ h => h) (by rfl) (by assumption) ?_ ?_; rotate_left; · (intro w hSw; (try dsimp only at hSw); go_simp; (first | done | with_reducible rfl)))); (try simp only [Act.put, List.setIfInBounds_toArray, List.set_cons_zero, List.set_cons_succ]))
              try (((refine takeY 6 (v := ?_) rfl (by kernel_rfl) (by decide +kernel) (by decide +kernel) (fun _ _ _ h => h) (by rfl) (by assumption) ?_ ?_; rotate_left; · (intro w hSw; (try dsimp only at hSw); go_simp; (first | done | with_reducible rfl)))); (try simp only [Act.put, List.setIfInBounds_toArray, List.set_cons_zero, List.set_cons_succ]))
              first
                | (refine takeN 7 rfl (by kernel_rfl) (by kernel_rfl) (by kernel_rfl) (fun _ _ _ h => h) (by rfl) (by assumption) ?_)
                | (refine stepH 7 rfl (by kernel_rfl) (by rfl) (fun K hK => ?_)
                   go_simp
                   ((with_reducible refine (rnote_old _ _ _ _ _ _ pg _ HM.out HSd.out.sim (by have := HSd.out.len; omega) HP.out).mono ?_); rintro e w3 ⟨rfl, q3, rfl⟩; have HG3 := HG2.out.drewN q3; have g1 := (HG3.cell 1).trans rfl)
                   (refine hK.out _ _ ?_ (fun hHeld => ?_))
                   · exact g1
                   clear hK K)
              first
                | (refine takeN 8 rfl (by kernel_rfl) (by kernel_rfl) (by kernel_rfl) (fun _ _ _ h => h) (by rfl) (by assumption) ?_)
                | (refine stepH 8 rfl (by kernel_rfl) (by rfl) (fun K hK => ?_)
                   go_simp
                   skip
                   (refine hK.out _ _ ?_ (fun hHeld => ?_))
                   · exact g1
                   clear hK K)
              first
                | (refine takeN 9 rfl (by kernel_rfl) (by kernel_rfl) (by kernel_rfl) (fun _ _ _ h => h) (by rfl) (by assumption) ?_)
                | (refine stepH 9 rfl (by kernel_rfl) (by rfl) (fun K hK => ?_)
                   go_simp
                   skip
                   (refine hK.out _ _ ?_ (fun hHeld => ?_))
                   · exact g1
                   clear hK K)
              refine wpAnyH_done (by kernel_rfl) ?_ _
              go_wp2_with fail
              go_meet
              exact ⟨0, false, true, _, v, xs, rfl, rfl, rfl, rfl, HSd.out.step H2.out HO2.out (HM.out.drewN q3) ((Only.refl _ _).drewN q3) (by rw [HPE.out]; exact HSd.out.sim) (by have := HSd.out.len; omega), HG3⟩
        · cases on
          · go_wp2_with fail
            have HSd := Lib.hid (HS1.out.quiet (Below.refl _ _).drew)
            have HGd := Lib.hid HG1.out.drew
            have g1 := (HG1.out.cell 1).trans rfl
            have hne : wr.heap.size ≠ w.heap.size + 1 ∧ wr.heap.size ≠ w1.heap.size := by omega
            refine wp_region_held_drew (S := (fun w' => w'.cell? ⟨wr.heap.size, 1, none⟩ = some (.int .u64 pg))) (by kernel_rfl) ?_ (fun hHeld => ?_)
            · exact g1
            ((refine takeY 0 (v := ?_) rfl (by kernel_rfl) (by kernel_rfl) (by kernel_rfl) (fun _ _ _ h => h) (by rfl) (by assumption) ?_ ?_; rotate_left; · (intro w hSw; (try dsimp only at hSw); go_simp; (first | done | with_reducible rfl))))
            (try simp only [Act.put, List.setIfInBounds_toArray, List.set_cons_zero, List.set_cons_succ])
            ((refine takeY 1 (v := ?_) rfl (by kernel_rfl) (by kernel_rfl) (by kernel_rfl) (fun _ _ _ h => h) (by rfl) (by assumption) ?_ ?_; rotate_left; · (intro w hSw; (try dsimp only at hSw); go_simp; (first | done | with_reducible rfl))))
            (try simp only [Act.put, List.setIfInBounds_toArray, List.set_cons_zero, List.set_cons_succ])
            ((refine takeY 2 (v := ?_) rfl (by kernel_rfl) (by kernel_rfl) (by kernel_rfl) (fun _ _ _ h => h) (by rfl) (by assumption) ?_ ?_; rotate_left; · (intro w hSw; (try dsimp only at hSw); go_simp; (first | done | with_reducible rfl))))
            (try simp only [Act.put, List.setIfInBounds_toArray, List.set_cons_zero, List.set_cons_succ])
            try (((refine takeY 4 (v := ?_) rfl (by kernel_rfl) (by decide +kernel) (by decide +kernel) (fun _ _ _ h => h) (by rfl) (by assumption) ?_ ?_; rotate_left; · (intro w hSw; (try dsimp only at hSw); go_simp; (first | done | with_reducible rfl)))); (try simp only [Act.put, List.setIfInBounds_toArray, List.set_cons_zero, List.set_cons_succ]))
            try (((refine takeY 5 (v := ?_) rfl (by kernel_rfl) (by decide +kernel) (by decide +kernel) (fun _ _ _ h => h) (by rfl) (by assumption) ?_ ?_; rotate_left; · (intro w hSw; (try dsimp only at hSw); go_simp; (first | done | with_reducible rfl)))); (try simp only [Act.put, List.setIfInBounds_toArray, List.set_cons_zero, List.set_cons_succ]))
            try (((refine takeY 6 (v := ?_) rfl (by kernel_rfl) (by decide +kernel) (by decide +kernel) (fun _ _ _ h => h) (by rfl) (by assumption) ?_ ?_; rotate_left; · (intro w hSw; (try dsimp only at hSw); go_simp; (first | done | with_reducible rfl)))); (try simp only [Act.put, List.setIfInBounds_toArray, List.set_cons_zero, List.set_cons_succ]))
            first
              | (refine takeN 3 rfl (by kernel_rfl) (by kernel_rfl) (by kernel_rfl) (fun _ _ _ h => h) (by rfl) (by assumption) ?_)
              | (refine stepH 3 rfl (by kernel_rfl) (by rfl) (fun K hK => ?_)
                 go_simp
                 ((with_reducible refine (dnote_off _ _ _ _ pg _ HSd.out.lg).mono ?_); rintro e w2 ⟨rfl, rfl⟩)
                 (refine hK.out _ _ ?_ (fun hHeld => ?_))
                 · exact g1
                 clear hK K)
            try (((refine takeY 4 (v := ?_) rfl (by kernel_rfl) (by decide +kernel) (by decide +kernel) (fun _ _ _ h => h) (by rfl) (by assumption) ?_ ?_; rotate_left; · (intro w hSw; (try dsimp only at hSw); go_simp; (first | done | with_reducible rfl)))); (try simp only [Act.put, List.setIfInBounds_toArray, List.set_cons_zero, List.set_cons_succ]))
            try (((refine takeY 5 (v := ?_) rfl (by kernel_rfl) (by decide +kernel) (by decide +kernel) (fun _ _ _ h => h) (by rfl) (by assumption) ?_ ?_; rotate_left; · (intro w hSw; (try dsimp only at hSw); go_simp; (first | done | with_reducible rfl)))); (try simp only [Act.put, List.setIfInBounds_toArray, List.set_cons_zero, List.set_cons_succ]))
            try (((refine takeY 6 (v := ?_) rfl (by kernel_rfl) (by decide +kernel) (by decide +kernel) (fun _ _ _ h => h) (by rfl) (by assumption) ?_ ?_; rotate_left; · (intro w hSw; (try dsimp only at hSw); go_simp; (first | done | with_reducible rfl)))); (try simp only [Act.put, List.setIfInBounds_toArray, List.set_cons_zero, List.set_cons_succ]))
            first
              | (refine takeN 7 rfl (by kernel_rfl) (by kernel_rfl) (by kernel_rfl) (fun _ _ _ h => h) (by rfl) (by assumption) ?_)
              | (refine stepH 7 rfl (by kernel_rfl) (by rfl) (fun K hK => ?_)
                 go_simp
                 ((with_reducible refine (rnote_off _ _ _ _ pg _ HSd.out.rf (by have := HSd.out.len; omega)).mono ?_); rintro e w3 ⟨rfl, q3, rfl⟩; have HG3 := HGd.out.drewN q3; have g1 := (HG3.cell 1).trans rfl)
                 (refine hK.out _ _ ?_ (fun hHeld => ?_))
                 · exact g1
                 clear hK K)
            first
              | (refine takeN 8 rfl (by kernel_rfl) (by kernel_rfl) (by kernel_rfl) (fun _ _ _ h => h) (by rfl) (by assumption) ?_)
              | (refine stepH 8 rfl (by kernel_rfl) (by rfl) (fun K hK => ?_)
                 go_simp
                 skip
                 (refine hK.out _ _ ?_ (fun hHeld => ?_))
                 · exact g1
                 clear hK K)
            first
              | (refine takeN 9 rfl (by kernel_rfl) (by kernel_rfl) (by kernel_rfl) (fun _ _ _ h => h) (by rfl) (by assumption) ?_)
              | (refine stepH 9 rfl (by kernel_rfl) (by rfl) (fun K hK => ?_)
                 go_simp
                 skip
                 (refine hK.out _ _ ?_ (fun hHeld => ?_))
                 · exact g1
                 clear hK K)
            refine wpAnyH_done (by kernel_rfl) ?_ _
            go_wp2_with fail
            go_meet
            exact ⟨0, false, false, P, v, xs, rfl, rfl, rfl, rfl, (HS1.out.quiet (below_drewN (Below.refl _ _) _)).more (Nat.le_succ _), HG1.out.drewN _⟩
          · cases hP : P pg
            · have HP := Lib.hid hP
              clear hP
              go_wp2_with fail
              have HSd := Lib.hid (HS1.out.quiet (Below.refl _ _).drew)
              have HGd := Lib.hid HG1.out.drew
              have g1 := (HG1.out.cell 1).trans rfl
              have hne : wr.heap.size ≠ w.heap.size + 1 ∧ wr.heap.size ≠ w1.heap.size := by omega
              refine wp_region_held_drew (S := (fun w' => w'.cell? ⟨wr.heap.size, 1, none⟩ = some (.int .u64 pg))) (by kernel_rfl) ?_ (fun hHeld => ?_)
              · exact g1
              ((refine takeY 0 (v := ?_) rfl (by kernel_rfl) (by kernel_rfl) (by kernel_rfl) (fun _ _ _ h => h) (by rfl) (by assumption) ?_ ?_; rotate_left; · (intro w hSw; (try dsimp only at hSw); go_simp; (first | done | with_reducible rfl))))
              (try simp only [Act.put, List.setIfInBounds_toArray, List.set_cons_zero, List.set_cons_succ])
              ((refine takeY 1 (v := ?_) rfl (by kernel_rfl) (by kernel_rfl) (by kernel_rfl) (fun _ _ _ h => h) (by rfl) (by assumption) ?_ ?_; rotate_left; · (intro w hSw; (try dsimp only at hSw); go_simp; (first | done | with_reducible rfl))))
              (try simp only [Act.put, List.setIfInBounds_toArray, List.set_cons_zero, List.set_cons_succ])
              ((refine takeY 2 (v := ?_) rfl (by kernel_rfl) (by kernel_rfl) (by kernel_rfl) (fun _ _ _ h => h) (by rfl) (by assumption) ?_ ?_; rotate_left; · (intro w hSw; (try dsimp only at hSw); go_simp; (first | done | with_reducible rfl))))
              (try simp only [Act.put, List.setIfInBounds_toArray, List.set_cons_zero, List.set_cons_succ])
              try (((refine takeY 4 (v := ?_) rfl (by kernel_rfl) (by decide +kernel) (by decide +kernel) (fun _ _ _ h => h) (by rfl) (by assumption) ?_ ?_; rotate_left; · (intro w hSw; (try dsimp only at hSw); go_simp; (first | done | with_reducible rfl)))); (try simp only [Act.put, List.setIfInBounds_toArray, List.set_cons_zero, List.set_cons_succ]))
              try (((refine takeY 5 (v := ?_) rfl (by kernel_rfl) (by decide +kernel) (by decide +kernel) (fun _ _ _ h => h) (by rfl) (by assumption) ?_ ?_; rotate_left; · (intro w hSw; (try dsimp only at hSw); go_simp; (first | done | with_reducible rfl)))); (try simp only [Act.put, List.setIfInBounds_toArray, List.set_cons_zero, List.set_cons_succ]))
              try (((refine takeY 6 (v := ?_) rfl (by kernel_rfl) (by decide +kernel) (by decide +kernel) (fun _ _ _ h => h) (by rfl) (by assumption) ?_ ?_; rotate_left; · (intro w hSw; (try dsimp only at hSw); go_simp; (first | done | with_reducible rfl)))); (try simp only [Act.put, List.setIfInBounds_toArray, List.set_cons_zero, List.set_cons_succ]))
              first
                | (refine takeN 3 rfl (by kernel_rfl) (by kernel_rfl) (by kernel_rfl) (fun _ _ _ h => h) (by rfl) (by assumption) ?_)
                | (refine stepH 3 rfl (by kernel_rfl) (by rfl) (fun K hK => ?_)
                   go_simp
                   ((with_reducible refine (dnote_on _ _ _ _ pg _ HSd.out.lg HPG.out (by unfold maxLen; omega)).mono ?_); rintro e w2 ⟨rfl, h2, ho2⟩; have H2 := Lib.hid h2; have HO2 := Lib.hid ho2; have HM := Lib.hid (HSd.out.mid ho2); have HB2 := Lib.hid (HSd.out.midB ho2); have HG2 := Lib.hid (blk_ds HGd.out ho2 hne.1); clear h2 ho2; have g1 := (HG2.out.cell 1).trans rfl; rw [HP.out])
                   (refine hK.out _ _ ?_ (fun hHeld => ?_))
                   · exact g1
                   clear hK K)
              try (((refine takeY 4 (v := ?_) rfl (by kernel_rfl) (by decide +kernel) (by decide +kernel) (fun _ _ _ h => h) (by rfl) (by assumption) ?_ ?_; rotate_left; · (intro w hSw; (try dsimp only at hSw); go_simp; (first | done | with_reducible rfl)))); (try simp only [Act.put, List.setIfInBounds_toArray, List.set_cons_zero, List.set_cons_succ]))
              try (((refine takeY 5 (v := ?_) rfl (by kernel_rfl) (by decide +kernel) (by decide +kernel) (fun _ _ _ h => h) (by rfl) (by assumption) ?_ ?_; rotate_left; · (intro w hSw; (try dsimp only at hSw); go_simp; (first | done | with_reducible rfl)))); (try simp only [Act.put, List.setIfInBounds_toArray, List.set_cons_zero, List.set_cons_succ]))
              try (((refine takeY 6 (v := ?_) rfl (by kernel_rfl) (by decide +kernel) (by decide +kernel) (fun _ _ _ h => h) (by rfl) (by assumption) ?_ ?_; rotate_left; · (intro w hSw; (try dsimp only at hSw); go_simp; (first | done | with_reducible rfl)))); (try simp only [Act.put, List.setIfInBounds_toArray, List.set_cons_zero, List.set_cons_succ]))
              first
                | (refine takeN 7 rfl (by kernel_rfl) (by kernel_rfl) (by kernel_rfl) (fun _ _ _ h => h) (by rfl) (by assumption) ?_)
                | (refine stepH 7 rfl (by kernel_rfl) (by rfl) (fun K hK => ?_)
                   go_simp
                   ((with_reducible refine (rnote_new _ _ _ _ _ pg _ HM.out HSd.out.sim (by have := HSd.out.len; omega) HB2.out.2 HP.out).mono ?_); rintro e w3 ⟨ys, hs3, hl3, rfl, v3, hr3, ho3⟩; have HG3 := HG2.out.only ho3 (fun e => hne.2 e); have g1 := (HG3.cell 1).trans rfl)
                   (refine hK.out _ _ ?_ (fun hHeld => ?_))
                   · exact g1
                   clear hK K)
              first
                | (refine takeN 8 rfl (by kernel_rfl) (by kernel_rfl) (by kernel_rfl) (fun _ _ _ h => h) (by rfl) (by assumption) ?_)
                | (refine stepH 8 rfl (by kernel_rfl) (by rfl) (fun K hK => ?_)
                   go_simp
                   skip
                   (refine hK.out _ _ ?_ (fun hHeld => ?_))
                   · exact g1
                   clear hK K)
              first
                | (refine takeN 9 rfl (by kernel_rfl) (by kernel_rfl) (by kernel_rfl) (fun _ _ _ h => h) (by rfl) (by assumption) ?_)
                | (refine stepH 9 rfl (by kernel_rfl) (by rfl) (fun K hK => ?_)
                   go_simp
                   skip
                   (refine hK.out _ _ ?_ (fun hHeld => ?_))
                   · exact g1
                   clear hK K)
              refine wpAnyH_done (by kernel_rfl) ?_ _
              go_wp2_with fail
              go_meet
              exact ⟨0, true, true, _, v3, ys, rfl, rfl, rfl, rfl, HSd.out.step H2.out HO2.out hr3 ho3 hs3 (by have := HSd.out.len; omega), HG3⟩
            · have HP := Lib.hid hP
              have HPE := Lib.hid (P_set hP)
              clear hP
              go_wp2_with fail
              have HSd := Lib.hid (HS1.out.quiet (Below.refl _ _).drew)
              have HGd := Lib.hid HG1.out.drew
              have g1 := (HG1.out.cell 1).trans rfl
              have hne : wr.heap.size ≠ w.heap.size + 1 ∧ wr.heap.size ≠ w1.heap.size := by omega
              refine wp_region_held_drew (S := (fun w' => w'.cell? ⟨wr.heap.size, 1, none⟩ = some (.int .u64 pg))) (by kernel_rfl) ?_ (fun hHeld => ?_)
              · exact g1
              ((refine takeY 0 (v := ?_) rfl (by kernel_rfl) (by kernel_rfl) (by kernel_rfl) (fun _ _ _ h => h) (by rfl) (by assumption) ?_ ?_; rotate_left; · (intro w hSw; (try dsimp only at hSw); go_simp; (first | done | with_reducible rfl))))
              (try simp only [Act.put, List.setIfInBounds_toArray, List.set_cons_zero, List.set_cons_succ])
              ((refine takeY 1 (v := ?_) rfl (by kernel_rfl) (by kernel_rfl) (by kernel_rfl) (fun _ _ _ h => h) (by rfl) (by assumption) ?_ ?_; rotate_left; · (intro w hSw; (try dsimp only at hSw); go_simp; (first | done | with_reducible rfl))))
              (try simp only [Act.put, List.setIfInBounds_toArray, List.set_cons_zero, List.set_cons_succ])
              ((refine takeY 2 (v := ?_) rfl (by kernel_rfl) (by kernel_rfl) (by kernel_rfl) (fun _ _ _ h => h) (by rfl) (by assumption) ?_ ?_; rotate_left; · (intro w hSw; (try dsimp only at hSw); go_simp; (first | done | with_reducible rfl))))
              (try simp only [Act.put, List.setIfInBounds_toArray, List.set_cons_zero, List.set_cons_succ])
              try (((refine takeY 4 (v := ?_) rfl (by kernel_rfl) (by decide +kernel) (by decide +kernel) (fun _ _ _ h => h) (by rfl) (by assumption) ?_ ?_; rotate_left; · (intro w hSw; (try dsimp only at hSw); go_simp; (first | done | with_reducible rfl)))); (try simp only [Act.put, List.setIfInBounds_toArray, List.set_cons_zero, List.set_cons_succ]))
              try (((refine takeY 5 (v := ?_) rfl (by kernel_rfl) (by decide +kernel) (by decide +kernel) (fun _ _ _ h => h) (by rfl) (by assumption) ?_ ?_; rotate_left; · (intro w hSw; (try dsimp only at hSw); go_simp; (first | done | with_reducible rfl)))); (try simp only [Act.put, List.setIfInBounds_toArray, List.set_cons_zero, List.set_cons_succ]))
              try (((refine takeY 6 (v := ?_) rfl (by kernel_rfl) (by decide +kernel) (by decide +kernel) (fun _ _ _ h => h) (by rfl) (by assumption) ?_ ?_; rotate_left; · (intro w hSw; (try dsimp only at hSw); go_simp; (first | done | with_reducible rfl)))); (try simp only [Act.put, List.setIfInBounds_toArray, List.set_cons_zero, List.set_cons_succ]))
              first
                | (refine takeN 3 rfl (by kernel_rfl) (by kernel_rfl) (by kernel_rfl) (fun _ _ _ h => h) (by rfl) (by assumption) ?_)
                | (refine stepH 3 rfl (by kernel_rfl) (by rfl) (fun K hK => ?_)
                   go_simp
                   ((with_reducible refine (dnote_on _ _ _ _ pg _ HSd.out.lg HPG.out (by unfold maxLen; omega)).mono ?_); rintro e w2 ⟨rfl, h2, ho2⟩; have H2 := Lib.hid h2; have HO2 := Lib.hid ho2; have HM := Lib.hid (HSd.out.mid ho2); have HB2 := Lib.hid (HSd.out.midB ho2); have HG2 := Lib.hid (blk_ds HGd.out ho2 hne.1); clear h2 ho2; have g1 := (HG2.out.cell 1).trans rfl; rw [HP.out])
                   (refine hK.out _ _ ?_ (fun hHeld => ?_))
                   · exact g1
                   clear hK K)
              try (((refine takeY 4 (v := ?_) rfl (by kernel_rfl) (by decide +kernel) (by decide +kernel) (fun _ _ _ h => h) (by rfl) (by assumption) ?_ ?_; rotate_left; · (intro w hSw; (try dsimp only at hSw); go_simp; (first | done | with_reducible rfl)))); (try simp only [Act.put, List.setIfInBounds_toArray, List.set_cons_zero, List.set_cons_succ]))
              try (((refine takeY 5 (v := ?_) rfl (by kernel_rfl) (by decide +kernel) (by decide +kernel) (fun _ _ _ h => h) (by rfl) (by assumption) ?_ ?_; rotate_left; · (intro w hSw; (try dsimp only at hSw); go_simp; (first | done | with_reducible rfl)))); (try simp only [Act.put, List.setIfInBounds_toArray, List.set_cons_zero, List.set_cons_succ]))
              try (((refine takeY 6 (v := ?_) rfl (by kernel_rfl) (by decide +kernel) (by decide +kernel) (fun _ _ _ h => h) (by rfl) (by assumption) ?_ ?_; rotate_left; · (intro w hSw; (try dsimp only at hSw); go_simp; (first | done | with_reducible rfl)))); (try simp only [Act.put, List.setIfInBounds_toArray, List.set_cons_zero, List.set_cons_succ]))
              first
                | (refine takeN 7 rfl (by kernel_rfl) (by kernel_rfl) (by kernel_rfl) (fun _ _ _ h => h) (by rfl) (by assumption) ?_)
                | (refine stepH 7 rfl (by kernel_rfl) (by rfl) (fun K hK => ?_)
                   go_simp
                   ((with_reducible refine (rnote_old _ _ _ _ _ _ pg _ HM.out HSd.out.sim (by have := HSd.out.len; omega) HP.out).mono ?_); rintro e w3 ⟨rfl, q3, rfl⟩; have HG3 := HG2.out.drewN q3; have g1 := (HG3.cell 1).trans rfl)
                   (refine hK.out _ _ ?_ (fun hHeld => ?_))
                   · exact g1
                   clear hK K)
              first
                | (refine takeN 8 rfl (by kernel_rfl) (by kernel_rfl) (by kernel_rfl) (fun _ _ _ h => h) (by rfl) (by assumption) ?_)
                | (refine stepH 8 rfl (by kernel_rfl) (by rfl) (fun K hK => ?_)
                   go_simp
                   skip
                   (refine hK.out _ _ ?_ (fun hHeld => ?_))
                   · exact g1
                   clear hK K)
              first
                | (refine takeN 9 rfl (by kernel_rfl) (by kernel_rfl) (by kernel_rfl) (fun _ _ _ h => h) (by rfl) (by assumption) ?_)
                | (refine stepH 9 rfl (by kernel_rfl) (by rfl) (fun K hK => ?_)
                   go_simp
                   skip
                   (refine hK.out _ _ ?_ (fun hHeld => ?_))
                   · exact g1
                   clear hK K)
              refine wpAnyH_done (by kernel_rfl) ?_ _
              go_wp2_with fail
              go_meet
              exact ⟨0, false, true, _, v, xs, rfl, rfl, rfl, rfl, HSd.out.step H2.out HO2.out (HM.out.drewN q3) ((Only.refl _ _).drewN q3) (by rw [HPE.out]; exact HSd.out.sim) (by have := HSd.out.len; omega), HG3⟩
        · cases on
          · go_wp2_with fail
            have HSd := Lib.hid (HS1.out.quiet (Below.refl _ _).drew)
            have HGd := Lib.hid HG1.out.drew
            have g1 := (HG1.out.cell 1).trans rfl
            have hne : wr.heap.size ≠ w.heap.size + 1 ∧ wr.heap.size ≠ w1.heap.size := by omega
            refine wp_region_held_drew (S := (fun w' => w'.cell? ⟨wr.heap.size, 1, none⟩ = some (.int .u64 pg))) (by kernel_rfl) ?_ (fun hHeld => ?_)
            · exact g1
            ((refine takeY 0 (v := ?_) rfl (by kernel_rfl) (by kernel_rfl) (by kernel_rfl) (fun _ _ _ h => h) (by rfl) (by assumption) ?_ ?_; rotate_left; · (intro w hSw; (try dsimp only at hSw); go_simp; (first | done | with_reducible rfl))))
            (try simp only [Act.put, List.setIfInBounds_toArray, List.set_cons_zero, List.set_cons_succ])
            ((refine takeY 1 (v := ?_) rfl (by kernel_rfl) (by kernel_rfl) (by kernel_rfl) (fun _ _ _ h => h) (by rfl) (by assumption) ?_ ?_; rotate_left; · (intro w hSw; (try dsimp only at hSw); go_simp; (first | done | with_reducible rfl))))
            (try simp only [Act.put, List.setIfInBounds_toArray, List.set_cons_zero, List.set_cons_succ])
            ((refine takeY 2 (v := ?_) rfl (by kernel_rfl) (by kernel_rfl) (by kernel_rfl) (fun _ _ _ h => h) (by rfl) (by assumption) ?_ ?_; rotate_left; · (intro w hSw; (try dsimp only at hSw); go_simp; (first | done | with_reducible rfl))))
            (try simp only [Act.put, List.setIfInBounds_toArray, List.set_cons_zero, List.set_cons_succ])
            try (((refine takeY 4 (v := ?_) rfl (by kernel_rfl) (by decide +kernel) (by decide +kernel) (fun _ _ _ h => h) (by rfl) (by assumption) ?_ ?_; rotate_left; · (intro w hSw; (try dsimp only at hSw); go_simp; (first | done | with_reducible rfl)))); (try simp only [Act.put, List.setIfInBounds_toArray, List.set_cons_zero, List.set_cons_succ]))
            try (((refine takeY 5 (v := ?_) rfl (by kernel_rfl) (by decide +kernel) (by decide +kernel) (fun _ _ _ h => h) (by rfl) (by assumption) ?_ ?_; rotate_left; · (intro w hSw; (try dsimp only at hSw); go_simp; (first | done | with_reducible rfl)))); (try simp only [Act.put, List.setIfInBounds_toArray, List.set_cons_zero, List.set_cons_succ]))
            try (((refine takeY 6 (v := ?_) rfl (by kernel_rfl) (by decide +kernel) (by decide +kernel) (fun _ _ _ h => h) (by rfl) (by assumption) ?_ ?_; rotate_left; · (intro w hSw; (try dsimp only at hSw); go_simp; (first | done | with_reducible rfl)))); (try simp only [Act.put, List.setIfInBounds_toArray, List.set_cons_zero, List.set_cons_succ]))
            first
              | (refine takeN 3 rfl (by kernel_rfl) (by kernel_rfl) (by kernel_rfl) (fun _ _ _ h => h) (by rfl) (by assumption) ?_)
              | (refine stepH 3 rfl (by kernel_rfl) (by rfl) (fun K hK => ?_)
                 go_simp
                 ((with_reducible refine (dnote_off _ _ _ _ pg _ HSd.out.lg).mono ?_); rintro e w2 ⟨rfl, rfl⟩)
                 (refine hK.out _ _ ?_ (fun hHeld => ?_))
                 · exact g1
                 clear hK K)
            try (((refine takeY 4 (v := ?_) rfl (by kernel_rfl) (by decide +kernel) (by decide +kernel) (fun _ _ _ h => h) (by rfl) (by assumption) ?_ ?_; rotate_left; · (intro w hSw; (try dsimp only at hSw); go_simp; (first | done | with_reducible rfl)))); (try simp only [Act.put, List.setIfInBounds_toArray, List.set_cons_zero, List.set_cons_succ]))
            try (((refine takeY 5 (v := ?_) rfl (by kernel_rfl) (by decide +kernel) (by decide +kernel) (fun _ _ _ h => h) (by rfl) (by assumption) ?_ ?_; rotate_left; · (intro w hSw; (try dsimp only at hSw); go_simp; (first | done | with_reducible rfl)))); (try simp only [Act.put, List.setIfInBounds_toArray, List.set_cons_zero, List.set_cons_succ]))
            try (((refine takeY 6 (v := ?_) rfl (by kernel_rfl) (by decide +kernel) (by decide +kernel) (fun _ _ _ h => h) (by rfl) (by assumption) ?_ ?_; rotate_left; · (intro w hSw; (try dsimp only at hSw); go_simp; (first | done | with_reducible rfl)))); (try simp only [Act.put, List.setIfInBounds_toArray, List.set_cons_zero, List.set_cons_succ]))
            first
              | (refine takeN 7 rfl (by kernel_rfl) (by kernel_rfl) (by kernel_rfl) (fun _ _ _ h => h) (by rfl) (by assumption) ?_)
              | (refine stepH 7 rfl (by kernel_rfl) (by rfl) (fun K hK => ?_)
                 go_simp
                 ((with_reducible refine (rnote_off _ _ _ _ pg _ HSd.out.rf (by have := HSd.out.len; omega)).mono ?_); rintro e w3 ⟨rfl, q3, rfl⟩; have HG3 := HGd.out.drewN q3; have g1 := (HG3.cell 1).trans rfl)
                 (refine hK.out _ _ ?_ (fun hHeld => ?_))
                 · exact g1
                 clear hK K)
            first
              | (refine takeN 8 rfl (by kernel_rfl) (by kernel_rfl) (by kernel_rfl) (fun _ _ _ h => h) (by rfl) (by assumption) ?_)
              | (refine stepH 8 rfl (by kernel_rfl) (by rfl) (fun K hK => ?_)
                 go_simp
                 skip
                 (refine hK.out _ _ ?_ (fun hHeld => ?_))
                 · exact g1
                 clear hK K)
            first
              | (refine takeN 9 rfl (by kernel_rfl) (by kernel_rfl) (by kernel_rfl) (fun _ _ _ h => h) (by rfl) (by assumption) ?_)
              | (refine stepH 9 rfl (by kernel_rfl) (by rfl) (fun K hK => ?_)
                 go_simp
                 skip
                 (refine hK.out _ _ ?_ (fun hHeld => ?_))
                 · exact g1
                 clear hK K)
            refine wpAnyH_done (by kernel_rfl) ?_ _
            go_wp2_with fail
            go_meet
            exact ⟨0, false, false, P, v, xs, rfl, rfl, rfl, rfl, (HS1.out.quiet (below_drewN (Below.refl _ _) _)).more (Nat.le_succ _), HG1.out.drewN _⟩
          · cases hP : P pg
            · have HP := Lib.hid hP
              clear hP
              go_wp2_with fail
              have HSd := Lib.hid (HS1.out.quiet (Below.refl _ _).drew)
              have HGd := Lib.hid HG1.out.drew
              have g1 := (HG1.out.cell 1).trans rfl
              have hne : wr.heap.size ≠ w.heap.size + 1 ∧ wr.heap.size ≠ w1.heap.size := by omega
              refine wp_region_held_drew (S := (fun w' => w'.cell? ⟨wr.heap.size, 1, none⟩ = some (.int .u64 pg))) (by kernel_rfl) ?_ (fun hHeld => ?_)
              · exact g1
              ((refine takeY 0 (v := ?_) rfl (by kernel_rfl) (by kernel_rfl) (by kernel_rfl) (fun _ _ _ h => h) (by rfl) (by assumption) ?_ ?_; rotate_left; · (intro w hSw; (try dsimp only at hSw); go_simp; (first | done | with_reducible rfl))))
              (try simp only [Act.put, List.setIfInBounds_toArray, List.set_cons_zero, List.set_cons_succ])
              ((refine takeY 1 (v := ?_) rfl (by kernel_rfl) (by kernel_rfl) (by kernel_rfl) (fun _ _ _ h => h) (by rfl) (by assumption) ?_ ?_; rotate_left; · (intro w hSw; (try dsimp only at hSw); go_simp; (first | done | with_reducible rfl))))
              (try simp only [Act.put, List.setIfInBounds_toArray, List.set_cons_zero, List.set_cons_succ])
              ((refine takeY 2 (v := ?_) rfl (by kernel_rfl) (by kernel_rfl) (by kernel_rfl) (fun _ _ _ h => h) (by rfl) (by assumption) ?_ ?_; rotate_left; · (intro w hSw; (try dsimp only at hSw); go_simp; (first | done | with_reducible rfl))))
              (try simp only [Act.put, List.setIfInBounds_toArray, List.set_cons_zero, List.set_cons_succ])
              try (((refine takeY 4 (v := ?_) rfl (by kernel_rfl) (by decide +kernel) (by decide +kernel) (fun _ _ _ h => h) (by rfl) (by assumption) ?_ ?_; rotate_left; · (intro w hSw; (try dsimp only at hSw); go_simp; (first | done | with_reducible rfl)))); (try simp only [Act.put, List.setIfInBounds_toArray, List.set_cons_zero, List.set_cons_succ]))
              try (((refine takeY 5 (v := ?_) rfl (by kernel_rfl) (by decide +kernel) (by decide +kernel) (fun _ _ _ h => h) (by rfl) (by assumption) ?_ ?_; rotate_left; · (intro w hSw; (try dsimp only at hSw); go_simp; (first | done | with_reducible rfl)))); (try simp only [Act.put, List.setIfInBounds_toArray, List.set_cons_zero, List.set_cons_succ]))
              try (((refine takeY 6 (v := ?_) rfl (by kernel_rfl) (by decide +kernel) (by decide +kernel) (fun _ _ _ h => h) (by rfl) (by assumption) ?_ ?_; rotate_left; · (intro w hSw; (try dsimp only at hSw); go_simp; (first | done | with_reducible rfl)))); (try simp only [Act.put, List.setIfInBounds_toArray, List.set_cons_zero, List.set_cons_succ]))
              first
                | (refine takeN 3 rfl (by kernel_rfl) (by kernel_rfl) (by kernel_rfl) (fun _ _ _ h => h) (by rfl) (by assumption) ?_)
                | (refine stepH 3 rfl (by kernel_rfl) (by rfl) (fun K hK => ?_)
                   go_simp
                   ((with_reducible refine (dnote_on _ _ _ _ pg _ HSd.out.lg HPG.out (by unfold maxLen; omega)).mono ?_); rintro e w2 ⟨rfl, h2, ho2⟩; have H2 := Lib.hid h2; have HO2 := Lib.hid ho2; have HM := Lib.hid (HSd.out.mid ho2); have HB2 := Lib.hid (HSd.out.midB ho2); have HG2 := Lib.hid (blk_ds HGd.out ho2 hne.1); clear h2 ho2; have g1 := (HG2.out.cell 1).trans rfl; rw [HP.out])
                   (refine hK.out _ _ ?_ (fun hHeld => ?_))
                   · exact g1
                   clear hK K)
              try (((refine takeY 4 (v := ?_) rfl (by kernel_rfl) (by decide +kernel) (by decide +kernel) (fun _ _ _ h => h) (by rfl) (by assumption) ?_ ?_; rotate_left; · (intro w hSw; (try dsimp only at hSw); go_simp; (first | done | with_reducible rfl)))); (try simp only [Act.put, List.setIfInBounds_toArray, List.set_cons_zero, List.set_cons_succ]))
              try (((refine takeY 5 (v := ?_) rfl (by kernel_rfl) (by decide +kernel) (by decide +kernel) (fun _ _ _ h => h) (by rfl) (by assumption) ?_ ?_; rotate_left; · (intro w hSw; (try dsimp only at hSw); go_simp; (first | done | with_reducible rfl)))); (try simp only [Act.put, List.setIfInBounds_toArray, List.set_cons_zero, List.set_cons_succ]))
              try (((refine takeY 6 (v := ?_) rfl (by kernel_rfl) (by decide +kernel) (by decide +kernel) (fun _ _ _ h => h) (by rfl) (by assumption) ?_ ?_; rotate_left; · (intro w hSw; (try dsimp only at hSw); go_simp; (first | done | with_reducible rfl)))); (try simp only [Act.put, List.setIfInBounds_toArray, List.set_cons_zero, List.set_cons_succ]))
              first
                | (refine takeN 7 rfl (by kernel_rfl) (by kernel_rfl) (by kernel_rfl) (fun _ _ _ h => h) (by rfl) (by assumption) ?_)
                | (refine stepH 7 rfl (by kernel_rfl) (by rfl) (fun K hK => ?_)
                   go_simp
                   ((with_reducible refine (rnote_new _ _ _ _ _ pg _ HM.out HSd.out.sim (by have := HSd.out.len; omega) HB2.out.2 HP.out).mono ?_); rintro e w3 ⟨ys, hs3, hl3, rfl, v3, hr3, ho3⟩; have HG3 := HG2.out.only ho3 (fun e => hne.2 e); have g1 := (HG3.cell 1).trans rfl)
                   (refine hK.out _ _ ?_ (fun hHeld => ?_))
                   · exact g1
                   clear hK K)
              first
                | (refine takeN 8 rfl (by kernel_rfl) (by kernel_rfl) (by kernel_rfl) (fun _ _ _ h => h) (by rfl) (by assumption) ?_)
                | (refine stepH 8 rfl (by kernel_rfl) (by rfl) (fun K hK => ?_)
                   go_simp
                   skip
                   (refine hK.out _ _ ?_ (fun hHeld => ?_))
                   · exact g1
                   clear hK K)
              first
                | (refine takeN 9 rfl (by kernel_rfl) (by kernel_rfl) (by kernel_rfl) (fun _ _ _ h => h) (by rfl) (by assumption) ?_)
                | (refine stepH 9 rfl (by kernel_rfl) (by rfl) (fun K hK => ?_)
                   go_simp
                   skip
                   (refine hK.out _ _ ?_ (fun hHeld => ?_))
                   · exact g1
                   clear hK K)
              refine wpAnyH_done (by kernel_rfl) ?_ _
              go_wp2_with fail
              go_meet
              exact ⟨0, true, true, _, v3, ys, rfl, rfl, rfl, rfl, HSd.out.step H2.out HO2.out hr3 ho3 hs3 (by have := HSd.out.len; omega), HG3⟩
            · have HP := Lib.hid hP
              have HPE := Lib.hid (P_set hP)
              clear hP
              go_wp2_with fail
              have HSd := Lib.hid (HS1.out.quiet (Below.refl _ _).drew)
              have HGd := Lib.hid HG1.out.drew
              have g1 := (HG1.out.cell 1).trans rfl
              have hne : wr.heap.size ≠ w.heap.size + 1 ∧ wr.heap.size ≠ w1.heap.size := by omega
              refine wp_region_held_drew (S := (fun w' => w'.cell? ⟨wr.heap.size, 1, none⟩ = some (.int .u64 pg))) (by kernel_rfl) ?_ (fun hHeld => ?_)
              · exact g1
              ((refine takeY 0 (v := ?_) rfl (by kernel_rfl) (by kernel_rfl) (by kernel_rfl) (fun _ _ _ h => h) (by rfl) (by assumption) ?_ ?_; rotate_left; · (intro w hSw; (try dsimp only at hSw); go_simp; (first | done | with_reducible rfl))))
              (try simp only [Act.put, List.setIfInBounds_toArray, List.set_cons_zero, List.set_cons_succ])
              ((refine takeY 1 (v := ?_) rfl (by kernel_rfl) (by kernel_rfl) (by kernel_rfl) (fun _ _ _ h => h) (by rfl) (by assumption) ?_ ?_; rotate_left; · (intro w hSw; (try dsimp only at hSw); go_simp; (first | done | with_reducible rfl))))
              (try simp only [Act.put, List.setIfInBounds_toArray, List.set_cons_zero, List.set_cons_succ])
              ((refine takeY 2 (v := ?_) rfl (by kernel_rfl) (by kernel_rfl) (by kernel_rfl) (fun _ _ _ h => h) (by rfl) (by assumption) ?_ ?_; rotate_left; · (intro w hSw; (try dsimp only at hSw); go_simp; (first | done | with_reducible rfl))))
              (try simp only [Act.put, List.setIfInBounds_toArray, List.set_cons_zero, List.set_cons_succ])
              try (((refine takeY 4 (v := ?_) rfl (by kernel_rfl) (by decide +kernel) (by decide +kernel) (fun _ _ _ h => h) (by rfl) (by assumption) ?_ ?_; rotate_left; · (intro w hSw; (try dsimp only at hSw); go_simp; (first | done | with_reducible rfl)))); (try simp only [Act.put, List.setIfInBounds_toArray, List.set_cons_zero, List.set_cons_succ]))
              try (((refine takeY 5 (v := ?_) rfl (by kernel_rfl) (by decide +kernel) (by decide +kernel) (fun _ _ _ h => h) (by rfl) (by assumption) ?_ ?_; rotate_left; · (intro w hSw; (try dsimp only at hSw); go_simp; (first | done | with_reducible rfl)))); (try simp only [Act.put, List.setIfInBounds_toArray, List.set_cons_zero, List.set_cons_succ]))
              try (((refine takeY 6 (v := ?_) rfl (by kernel_rfl) (by decide +kernel) (by decide +kernel) (fun _ _ _ h => h) (by rfl) (by assumption) ?_ ?_; rotate_left; · (intro w hSw; (try dsimp only at hSw); go_simp; (first | done | with_reducible rfl)))); (try simp only [Act.put, List.setIfInBounds_toArray, List.set_cons_zero, List.set_cons_succ]))
              first
                | (refine takeN 3 rfl (by kernel_rfl) (by kernel_rfl) (by kernel_rfl) (fun _ _ _ h => h) (by rfl) (by assumption) ?_)
                | (refine stepH 3 rfl (by kernel_rfl) (by rfl) (fun K hK => ?_)
                   go_simp
                   ((with_reducible refine (dnote_on _ _ _ _ pg _ HSd.out.lg HPG.out (by unfold maxLen; omega)).mono ?_); rintro e w2 ⟨rfl, h2, ho2⟩; have H2 := Lib.hid h2; have HO2 := Lib.hid ho2; have HM := Lib.hid (HSd.out.mid ho2); have HB2 := Lib.hid (HSd.out.midB ho2); have HG2 := Lib.hid (blk_ds HGd.out ho2 hne.1); clear h2 ho2; have g1 := (HG2.out.cell 1).trans rfl; rw [HP.out])
                   (refine hK.out _ _ ?_ (fun hHeld => ?_))
                   · exact g1
                   clear hK K)
              try (((refine takeY 4 (v := ?_) rfl (by kernel_rfl) (by decide +kernel) (by decide +kernel) (fun _ _ _ h => h) (by rfl) (by assumption) ?_ ?_; rotate_left; · (intro w hSw; (try dsimp only at hSw); go_simp; (first | done | with_reducible rfl)))); (try simp only [Act.put, List.setIfInBounds_toArray, List.set_cons_zero, List.set_cons_succ]))
              try (((refine takeY 5 (v := ?_) rfl (by kernel_rfl) (by decide +kernel) (by decide +kernel) (fun _ _ _ h => h) (by rfl) (by assumption) ?_ ?_; rotate_left; · (intro w hSw; (try dsimp only at hSw); go_simp; (first | done | with_reducible rfl)))); (try simp only [Act.put, List.setIfInBounds_toArray, List.set_cons_zero, List.set_cons_succ]))
              try (((refine takeY 6 (v := ?_) rfl (by kernel_rfl) (by decide +kernel) (by decide +kernel) (fun _ _ _ h => h) (by rfl) (by assumption) ?_ ?_; rotate_left; · (intro w hSw; (try dsimp only at hSw); go_simp; (first | done | with_reducible rfl)))); (try simp only [Act.put, List.setIfInBounds_toArray, List.set_cons_zero, List.set_cons_succ]))
              first
                | (refine takeN 7 rfl (by kernel_rfl) (by kernel_rfl) (by kernel_rfl) (fun _ _ _ h => h) (by rfl) (by assumption) ?_)
                | (refine stepH 7 rfl (by kernel_rfl) (by rfl) (fun K hK => ?_)
                   go_simp
                   ((with_reducible refine (rnote_old _ _ _ _ _ _ pg _ HM.out HSd.out.sim (by have := HSd.out.len; omega) HP.out).mono ?_); rintro e w3 ⟨rfl, q3, rfl⟩; have HG3 := HG2.out.drewN q3; have g1 := (HG3.cell 1).trans rfl)
                   (refine hK.out _ _ ?_ (fun hHeld => ?_))
                   · exact g1
                   clear hK K)
              first
                | (refine takeN 8 rfl (by kernel_rfl) (by kernel_rfl) (by kernel_rfl) (fun _ _ _ h => h) (by rfl) (by assumption) ?_)
                | (refine stepH 8 rfl (by kernel_rfl) (by rfl) (fun K hK => ?_)
                   go_simp
                   skip
                   (refine hK.out _ _ ?_ (fun hHeld => ?_))
                   · exact g1
                   clear hK K)
              first
                | (refine takeN 9 rfl (by kernel_rfl) (by kernel_rfl) (by kernel_rfl) (fun _ _ _ h => h) (by rfl) (by assumption) ?_)
                | (refine stepH 9 rfl (by kernel_rfl) (by rfl) (fun K hK => ?_)
                   go_simp
                   skip
                   (refine hK.out _ _ ?_ (fun hHeld => ?_))
                   · exact g1
                   clear hK K)
              refine wpAnyH_done (by kernel_rfl) ?_ _
              go_wp2_with fail
              go_meet
              exact ⟨0, false, true, _, v, xs, rfl, rfl, rfl, rfl, HSd.out.step H2.out HO2.out (HM.out.drewN q3) ((Only.refl _ _).drewN q3) (by rw [HPE.out]; exact HSd.out.sim) (by have := HSd.out.len; omega), HG3⟩
        · cases hP : P pg
          · have HP := Lib.hid hP
            have HPE : Hid ((fun q => P q && !(q == pg)) = P) := Lib.hid (by
              funext q
              by_cases hq : q = pg
              · subst hq; simp [hP]
              · simp [hq])
            clear hP
            go_wp2_with fail
            have HSd := Lib.hid (HS1.out.quiet (Below.refl _ _).drew)
            have HGd := Lib.hid HG1.out.drew
            have g1 := (HG1.out.cell 1).trans rfl
            have hne : wr.heap.size ≠ w.heap.size + 1 ∧ wr.heap.size ≠ w1.heap.size := by omega
            refine wp_region_held_drew (S := (fun w' => w'.cell? ⟨wr.heap.size, 1, none⟩ = some (.int .u64 pg))) (by kernel_rfl) ?_ (fun hHeld => ?_)
            · exact g1
            ((refine takeY 0 (v := ?_) rfl (by kernel_rfl) (by kernel_rfl) (by kernel_rfl) (fun _ _ _ h => h) (by rfl) (by assumption) ?_ ?_; rotate_left; · (intro w hSw; (try dsimp only at hSw); go_simp; (first | done | with_reducible rfl))))
            (try simp only [Act.put, List.setIfInBounds_toArray, List.set_cons_zero, List.set_cons_succ])
            ((refine takeY 1 (v := ?_) rfl (by kernel_rfl) (by kernel_rfl) (by kernel_rfl) (fun _ _ _ h => h) (by rfl) (by assumption) ?_ ?_; rotate_left; · (intro w hSw; (try dsimp only at hSw); go_simp; (first | done | with_reducible rfl))))
            (try simp only [Act.put, List.setIfInBounds_toArray, List.set_cons_zero, List.set_cons_succ])
            ((refine takeY 2 (v := ?_) rfl (by kernel_rfl) (by kernel_rfl) (by kernel_rfl) (fun _ _ _ h => h) (by rfl) (by assumption) ?_ ?_; rotate_left; · (intro w hSw; (try dsimp only at hSw); go_simp; (first | done | with_reducible rfl))))
            (try simp only [Act.put, List.setIfInBounds_toArray, List.set_cons_zero, List.set_cons_succ])
            try (((refine takeY 4 (v := ?_) rfl (by kernel_rfl) (by decide +kernel) (by decide +kernel) (fun _ _ _ h => h) (by rfl) (by assumption) ?_ ?_; rotate_left; · (intro w hSw; (try dsimp only at hSw); go_simp; (first | done | with_reducible rfl)))); (try simp only [Act.put, List.setIfInBounds_toArray, List.set_cons_zero, List.set_cons_succ]))
            try (((refine takeY 5 (v := ?_) rfl (by kernel_rfl) (by decide +kernel) (by decide +kernel) (fun _ _ _ h => h) (by rfl) (by assumption) ?_ ?_; rotate_left; · (intro w hSw; (try dsimp only at hSw); go_simp; (first | done | with_reducible rfl)))); (try simp only [Act.put, List.setIfInBounds_toArray, List.set_cons_zero, List.set_cons_succ]))
            try (((refine takeY 6 (v := ?_) rfl (by kernel_rfl) (by decide +kernel) (by decide +kernel) (fun _ _ _ h => h) (by rfl) (by assumption) ?_ ?_; rotate_left; · (intro w hSw; (try dsimp only at hSw); go_simp; (first | done | with_reducible rfl)))); (try simp only [Act.put, List.setIfInBounds_toArray, List.set_cons_zero, List.set_cons_succ]))
            first
              | (refine takeN 3 rfl (by kernel_rfl) (by kernel_rfl) (by kernel_rfl) (fun _ _ _ h => h) (by rfl) (by assumption) ?_)
              | (refine stepH 3 rfl (by kernel_rfl) (by rfl) (fun K hK => ?_)
                 go_simp
                 ((with_reducible refine (dforget_any _ _ _ _ _ pg _ HSd.out.lg HPG.out (by unfold maxLen; omega)).mono ?_); rintro e w2 ⟨rfl, h2, ho2⟩; have H2 := Lib.hid h2; have HO2 := Lib.hid ho2; have HM := Lib.hid (HSd.out.mid ho2); have HG2 := Lib.hid (blk_ds HGd.out ho2 hne.1); clear h2 ho2; have g1 := (HG2.out.cell 1).trans rfl; rw [HP.out])
                 (refine hK.out _ _ ?_ (fun hHeld => ?_))
                 · exact g1
                 clear hK K)
            try (((refine takeY 4 (v := ?_) rfl (by kernel_rfl) (by decide +kernel) (by decide +kernel) (fun _ _ _ h => h) (by rfl) (by assumption) ?_ ?_; rotate_left; · (intro w hSw; (try dsimp only at hSw); go_simp; (first | done | with_reducible rfl)))); (try simp only [Act.put, List.setIfInBounds_toArray, List.set_cons_zero, List.set_cons_succ]))
            try (((refine takeY 5 (v := ?_) rfl (by kernel_rfl) (by decide +kernel) (by decide +kernel) (fun _ _ _ h => h) (by rfl) (by assumption) ?_ ?_; rotate_left; · (intro w hSw; (try dsimp only at hSw); go_simp; (first | done | with_reducible rfl)))); (try simp only [Act.put, List.setIfInBounds_toArray, List.set_cons_zero, List.set_cons_succ]))
            try (((refine takeY 6 (v := ?_) rfl (by kernel_rfl) (by decide +kernel) (by decide +kernel) (fun _ _ _ h => h) (by rfl) (by assumption) ?_ ?_; rotate_left; · (intro w hSw; (try dsimp only at hSw); go_simp; (first | done | with_reducible rfl)))); (try simp only [Act.put, List.setIfInBounds_toArray, List.set_cons_zero, List.set_cons_succ]))
            first
              | (refine takeN 7 rfl (by kernel_rfl) (by kernel_rfl) (by kernel_rfl) (fun _ _ _ h => h) (by rfl) (by assumption) ?_)
              | (refine stepH 7 rfl (by kernel_rfl) (by rfl) (fun K hK => ?_)
                 go_simp
                 ((with_reducible refine (rforget_new _ _ _ _ _ _ pg _ HM.out HSd.out.sim (by have := HSd.out.len; omega) HP.out).mono ?_); rintro e w3 ⟨rfl, q3, rfl⟩; have HG3 := HG2.out.drewN q3; have g1 := (HG3.cell 1).trans rfl)
                 (refine hK.out _ _ ?_ (fun hHeld => ?_))
                 · exact g1
                 clear hK K)
            first
              | (refine takeN 8 rfl (by kernel_rfl) (by kernel_rfl) (by kernel_rfl) (fun _ _ _ h => h) (by rfl) (by assumption) ?_)
              | (refine stepH 8 rfl (by kernel_rfl) (by rfl) (fun K hK => ?_)
                 go_simp
                 skip
                 (refine hK.out _ _ ?_ (fun hHeld => ?_))
                 · exact g1
                 clear hK K)
            first
              | (refine takeN 9 rfl (by kernel_rfl) (by kernel_rfl) (by kernel_rfl) (fun _ _ _ h => h) (by rfl) (by assumption) ?_)
              | (refine stepH 9 rfl (by kernel_rfl) (by rfl) (fun K hK => ?_)
                 go_simp
                 skip
                 (refine hK.out _ _ ?_ (fun hHeld => ?_))
                 · exact g1
                 clear hK K)
            refine wpAnyH_done (by kernel_rfl) ?_ _
            go_wp2_with fail
            go_meet
            exact ⟨0, false, on, _, v, xs, rfl, rfl, rfl, rfl, HSd.out.step H2.out HO2.out (HM.out.drewN q3) ((Only.refl _ _).drewN q3) (by rw [HPE.out]; exact HSd.out.sim) (by have := HSd.out.len; omega), HG3⟩
          · have HP := Lib.hid hP
            clear hP
            go_wp2_with fail
            have HSd := Lib.hid (HS1.out.quiet (Below.refl _ _).drew)
            have HGd := Lib.hid HG1.out.drew
            have g1 := (HG1.out.cell 1).trans rfl
            have hne : wr.heap.size ≠ w.heap.size + 1 ∧ wr.heap.size ≠ w1.heap.size := by omega
            refine wp_region_held_drew (S := (fun w' => w'.cell? ⟨wr.heap.size, 1, none⟩ = some (.int .u64 pg))) (by kernel_rfl) ?_ (fun hHeld => ?_)
            · exact g1
            ((refine takeY 0 (v := ?_) rfl (by kernel_rfl) (by kernel_rfl) (by kernel_rfl) (fun _ _ _ h => h) (by rfl) (by assumption) ?_ ?_; rotate_left; · (intro w hSw; (try dsimp only at hSw); go_simp; (first | done | with_reducible rfl))))
            (try simp only [Act.put, List.setIfInBounds_toArray, List.set_cons_zero, List.set_cons_succ])
            ((refine takeY 1 (v := ?_) rfl (by kernel_rfl) (by kernel_rfl) (by kernel_rfl) (fun _ _ _ h => h) (by rfl) (by assumption) ?_ ?_; rotate_left; · (intro w hSw; (try dsimp only at hSw); go_simp; (first | done | with_reducible rfl))))
            (try simp only [Act.put, List.setIfInBounds_toArray, List.set_cons_zero, List.set_cons_succ])
            ((refine takeY 2 (v := ?_) rfl (by kernel_rfl) (by kernel_rfl) (by kernel_rfl) (fun _ _ _ h => h) (by rfl) (by assumption) ?_ ?_; rotate_left; · (intro w hSw; (try dsimp only at hSw); go_simp; (first | done | with_reducible rfl))))
            (try simp only [Act.put, List.setIfInBounds_toArray, List.set_cons_zero, List.set_cons_succ])
            try (((refine takeY 4 (v := ?_) rfl (by kernel_rfl) (by decide +kernel) (by decide +kernel) (fun _ _ _ h => h) (by rfl) (by assumption) ?_ ?_; rotate_left; · (intro w hSw; (try dsimp only at hSw); go_simp; (first | done | with_reducible rfl)))); (try simp only [Act.put, List.setIfInBounds_toArray, List.set_cons_zero, List.set_cons_succ]))
            try (((refine takeY 5 (v := ?_) rfl (by kernel_rfl) (by decide +kernel) (by decide +kernel) (fun _ _ _ h => h) (by rfl) (by assumption) ?_ ?_; rotate_left; · (intro w hSw; (try dsimp only at hSw); go_simp; (first | done | with_reducible rfl)))); (try simp only [Act.put, List.setIfInBounds_toArray, List.set_cons_zero, List.set_cons_succ]))
            try (((refine takeY 6 (v := ?_) rfl (by kernel_rfl) (by decide +kernel) (by decide +kernel) (fun _ _ _ h => h) (by rfl) (by assumption) ?_ ?_; rotate_left; · (intro w hSw; (try dsimp only at hSw); go_simp; (first | done | with_reducible rfl)))); (try simp only [Act.put, List.setIfInBounds_toArray, List.set_cons_zero, List.set_cons_succ]))
            first
              | (refine takeN 3 rfl (by kernel_rfl) (by kernel_rfl) (by kernel_rfl) (fun _ _ _ h => h) (by rfl) (by assumption) ?_)
              | (refine stepH 3 rfl (by kernel_rfl) (by rfl) (fun K hK => ?_)
                 go_simp
                 ((with_reducible refine (dforget_any _ _ _ _ _ pg _ HSd.out.lg HPG.out (by unfold maxLen; omega)).mono ?_); rintro e w2 ⟨rfl, h2, ho2⟩; have H2 := Lib.hid h2; have HO2 := Lib.hid ho2; have HM := Lib.hid (HSd.out.mid ho2); have HB2 := Lib.hid (HSd.out.midB ho2); have HG2 := Lib.hid (blk_ds HGd.out ho2 hne.1); clear h2 ho2; have g1 := (HG2.out.cell 1).trans rfl; rw [HP.out])
                 (refine hK.out _ _ ?_ (fun hHeld => ?_))
                 · exact g1
                 clear hK K)
            try (((refine takeY 4 (v := ?_) rfl (by kernel_rfl) (by decide +kernel) (by decide +kernel) (fun _ _ _ h => h) (by rfl) (by assumption) ?_ ?_; rotate_left; · (intro w hSw; (try dsimp only at hSw); go_simp; (first | done | with_reducible rfl)))); (try simp only [Act.put, List.setIfInBounds_toArray, List.set_cons_zero, List.set_cons_succ]))
            try (((refine takeY 5 (v := ?_) rfl (by kernel_rfl) (by decide +kernel) (by decide +kernel) (fun _ _ _ h => h) (by rfl) (by assumption) ?_ ?_; rotate_left; · (intro w hSw; (try dsimp only at hSw); go_simp; (first | done | with_reducible rfl)))); (try simp only [Act.put, List.setIfInBounds_toArray, List.set_cons_zero, List.set_cons_succ]))
            try (((refine takeY 6 (v := ?_) rfl (by kernel_rfl) (by decide +kernel) (by decide +kernel) (fun _ _ _ h => h) (by rfl) (by assumption) ?_ ?_; rotate_left; · (intro w hSw; (try dsimp only at hSw); go_simp; (first | done | with_reducible rfl)))); (try simp only [Act.put, List.setIfInBounds_toArray, List.set_cons_zero, List.set_cons_succ]))
            first
              | (refine takeN 7 rfl (by kernel_rfl) (by kernel_rfl) (by kernel_rfl) (fun _ _ _ h => h) (by rfl) (by assumption) ?_)
              | (refine stepH 7 rfl (by kernel_rfl) (by rfl) (fun K hK => ?_)
                 go_simp
                 ((with_reducible refine (rforget_old _ _ _ _ _ _ pg _ HM.out HSd.out.sim (by have := HSd.out.len; omega) HB2.out.2 HP.out).mono ?_); rintro e w3 ⟨ys, hs3, hl3, rfl, v3, hr3, ho3⟩; have HG3 := HG2.out.only ho3 (fun e => hne.2 e); have g1 := (HG3.cell 1).trans rfl)
                 (refine hK.out _ _ ?_ (fun hHeld => ?_))
                 · exact g1
                 clear hK K)
            first
              | (refine takeN 8 rfl (by kernel_rfl) (by kernel_rfl) (by kernel_rfl) (fun _ _ _ h => h) (by rfl) (by assumption) ?_)
              | (refine stepH 8 rfl (by kernel_rfl) (by rfl) (fun K hK => ?_)
                 go_simp
                 skip
                 (refine hK.out _ _ ?_ (fun hHeld => ?_))
                 · exact g1
                 clear hK K)
            first
              | (refine takeN 9 rfl (by kernel_rfl) (by kernel_rfl) (by kernel_rfl) (fun _ _ _ h => h) (by rfl) (by assumption) ?_)
              | (refine stepH 9 rfl (by kernel_rfl) (by rfl) (fun K hK => ?_)
                 go_simp
                 skip
                 (refine hK.out _ _ ?_ (fun hHeld => ?_))
                 · exact g1
                 clear hK K)
            refine wpAnyH_done (by kernel_rfl) ?_ _
            go_wp2_with fail
            go_meet
            exact ⟨0, true, on, _, v3, ys, rfl, rfl, rfl, rfl, HSd.out.step H2.out HO2.out hr3 ho3 hs3 (by have := HSd.out.len; omega), HG3⟩
        · cases on
          · go_wp2_with fail
            refine (dcoll_off _ _ _ _ _ HS1.out.lg).mono ?_; rintro e w2 ⟨rfl, rfl⟩
            go_wp2_with fail
            refine (rcoll_off _ _ _ _ _ HS1.out.rf).mono ?_; rintro e w3 ⟨rfl, rfl⟩
            go_wp2_with fail
            refine (words_any none none 0 0 0 0 0 0 [] [] _ Reads.none_ Reads.none_ (by decide)).mono ?_; rintro e w4 ⟨rfl, hb4⟩
            have HP4 := Lib.hid ((HS1.out.quiet hb4).more (Nat.le_succ t))
            have HG4 := Lib.hid (HG1.out.below hb4 HG1.out.lt)
            clear hb4
            go_wp2_with fail
            obtain ⟨wo, rfl⟩ : ∃ wo : World, wo = wr := ⟨_, rfl⟩
            go_loopw [15] (fun iv wx => iv = .int .i64 0 ∧ PD w wx (w.heap.size + 1) w.heap.size w1.heap.size (w1.heap.size + 1) false P (t + 1) v xs ∧ Blk wx wo.heap.size 31 #[.int .i64 kd, .int .u64 pg]) (fun _ _ => 0)
            case atStart => exact ⟨rfl, HP4.out, HG4.out⟩
            case round =>
              obtain ⟨rfl, hp, hg⟩ := hrel
              have HP := Lib.hid hp
              have HG := Lib.hid hg
              clear hp hg
              go_wp2_with fail
              go_meet
              exact ⟨20, false, false, P, v, xs, rfl, rfl, rfl, rfl, HP.out, HG.out⟩
          · go_wp2_with fail
            refine (dcoll_on _ _ _ _ _ HS1.out.lg (by omega) (by have := HS1.out.dist; omega) (sortOk_le (by omega))).mono ?_; rintro e w2 ⟨vv, ys, rfl, hy1, hy2, hown, h2, ho2⟩
            have H2 := Lib.hid h2
            have HO2 := Lib.hid ho2
            have HM := Lib.hid (HS1.out.mid ho2)
            have HG2 := Lib.hid (blk_ds HG1.out ho2 (by omega))
            have hyx : ys = xs := strict_ext hy1 HS1.out.sim.srt (fun p => (hy2 p).trans (HS1.out.sim.mem p).symm)
            subst hyx
            obtain ⟨Av, cv, rfl, _⟩ := own_slice hown
            have HV2 := Lib.hid (ownsRow_mono hown (show wr.heap.size + 1 ≤ _ from by simp))
            clear h2 ho2 hy1 hy2 hown
            go_wp2_with fail
            refine (rcoll_on _ _ _ _ _ HM.out).mono ?_; rintro e w3 ⟨rfl, hr3, ho3, hown3⟩
            have HP3 := Lib.hid ((HS1.out.step H2.out HO2.out hr3 ho3 rsim_nil (Nat.le_refl _)).more (Nat.zero_le (t + 1)))
            have HG3 := Lib.hid (HG2.out.only ho3 (by omega))
            have HV3 := Lib.hid (own_only HV2.out ho3 (by rintro k rfl; have := HS1.out.dist; omega))
            obtain ⟨Ar, cr, rfl, hrr⟩ := own_slice hown3
            have HRR := Lib.hid hrr
            have hl101 : ys.length ≤ 101 := by have := HS1.out.len; omega
            clear hr3 ho3 hown3 hrr
            go_wp2_with fail
            refine (words_any _ _ _ _ _ _ _ _ ys ys _ (Reads.of_own HV3.out) HRR.out (by omega)).mono ?_; rintro e w4 ⟨rfl, hb4⟩
            rw [show decide (ys = ys) = true from by simp]
            have HP4 := Lib.hid (HP3.out.quiet hb4)
            have HG4 := Lib.hid (HG3.out.below hb4 HG3.out.lt)
            have HV4 := Lib.hid (own_below HV3.out hb4)
            clear hb4
            go_wp2_with fail
            obtain ⟨wo, rfl⟩ : ∃ wo : World, wo = wr := ⟨_, rfl⟩
            obtain ⟨n, hn⟩ : ∃ n, ys.length = n := ⟨_, rfl⟩
            rw [hn] at HV4 hl101
            rw [hn]
            clear hn
            go_loopw [15] (RelV w (w.heap.size + 1) w.heap.size w1.heap.size (w1.heap.size + 1) (t + 1) wo.heap.size #[.int .i64 kd, .int .u64 pg] (wo.heap.size + 1) Av n cv) (fun iv _ => n - cnt iv)
            case atStart => exact ⟨0, _, rfl, Nat.zero_le _, HP4.out, HG4.out, HV4.out⟩
            case round =>
              obtain ⟨q, zs, rfl, hq, hp, hg, hv⟩ := hrel
              have HP := Lib.hid hp
              have HG := Lib.hid hg
              have HV := Lib.hid hv
              clear hp hg hv
              by_cases hqn : q < n
              · have hqn' : decide ((q : Int) < (n : Int)) = true := by simp; omega
                obtain ⟨gs, cap, hs, hgs, _⟩ := HV.out.form (by omega)
                injection hs with hs1 hs2 hs3
                subst hs1 hs3
                have hz : ∃ z, zs[q]? = some z := ⟨_, List.getElem?_eq_getElem (by have := HV.out.1; rw [List.length_map] at this; omega)⟩
                obtain ⟨z, hz⟩ := hz
                have cz := (HV.out.cellAt q (by omega)).trans (show _ = some (.int .u64 z) from by rw [List.getElem?_map, hz]; rfl)
                have hfz := HV.out.frozenAt q
                have hst := (HV.out.stored q (.int .u64 7)).1
                rw [show (zs.map (Value.int .u64)).set q (.int .u64 7) = (zs.set q 7).map (Value.int .u64) from by rw [List.map_set]] at hst
                have HST := Lib.hid hst
                have HPS := Lib.hid (HP.out.sown HV.out (p := ⟨gs, q, none⟩) rfl (by have := HS1.out.dist; simp at this; omega) (.int .u64 7))
                have HGS := Lib.hid (HG.out.far (show wo.heap.size ≠ gs by omega) (.int .u64 7) (p := ⟨gs, q, none⟩))
                clear hst hz hgs
                go_wp2
                go_roundw
                case rel => exact ⟨q + 1, _, by go_num, by omega, HPS.out, HGS.out, HST.out⟩
                case measure => simp [cnt]; omega
              · have hqn' : decide ((q : Int) < (n : Int)) = false := by simp; omega
                go_wp2_with fail
                go_meet
                exact ⟨0, false, true, _, _, [], rfl, rfl, rfl, rfl, HP.out, HG.out⟩
        · cases on
          · go_wp2_with fail
            refine (dstart_off _ _ _ _ _ HS1.out.lg (by have := HS1.out.dist; omega)).mono ?_; rintro e w2 ⟨rfl, h2, ho2⟩
            have H2 := Lib.hid h2
            have HO2 := Lib.hid ho2
            have HM := Lib.hid (HS1.out.mid ho2)
            have HG2 := Lib.hid (blk_ds HG1.out ho2 (by omega))
            clear h2 ho2
            go_wp2_with fail
            refine (rstart_off _ _ _ _ _ HM.out).mono ?_; rintro e w3 ⟨rfl, hr3, ho3⟩
            have HP3 := Lib.hid ((HS1.out.step H2.out HO2.out hr3 ho3 rsim_nil (Nat.le_refl _)).more (Nat.zero_le (t + 1)))
            have HG3 := Lib.hid (HG2.out.only ho3 (by omega))
            clear hr3 ho3
            go_wp2_with fail
            go_meet
            exact ⟨0, false, true, _, _, [], rfl, rfl, rfl, rfl, HP3.out, HG3.out⟩
          · go_wp2_with fail
            refine (dstart_on _ _ _ _ _ HS1.out.lg).mono ?_; rintro e w2 ⟨rfl, rfl⟩
            go_wp2_with fail
            refine (rstart_on _ _ _ _ _ HS1.out.rf).mono ?_; rintro e w3 ⟨rfl, rfl⟩
            go_wp2_with fail
            go_meet
            exact ⟨20, false, true, P, v, xs, rfl, rfl, rfl, rfl, HS1.out.more (Nat.le_succ _), HG1.out⟩
        · cases on
          · go_wp2_with fail
            refine (dstop_off _ _ _ _ _ HS1.out.lg).mono ?_; rintro e w2 ⟨rfl, rfl⟩
            go_wp2_with fail
            refine (rstop_off _ _ _ _ _ HS1.out.rf).mono ?_; rintro e w3 ⟨rfl, rfl⟩
            go_wp2_with fail
            go_meet
            exact ⟨20, false, false, P, v, xs, rfl, rfl, rfl, rfl, HS1.out.more (Nat.le_succ _), HG1.out⟩
          · go_wp2_with fail
            refine (dstop_on _ _ _ _ _ HS1.out.lg (by have := HS1.out.dist; omega)).mono ?_; rintro e w2 ⟨rfl, h2, ho2⟩
            have H2 := Lib.hid h2
            have HO2 := Lib.hid ho2
            have HM := Lib.hid (HS1.out.mid ho2)
            have HG2 := Lib.hid (blk_ds HG1.out ho2 (by omega))
            clear h2 ho2
            go_wp2_with fail
            refine (rstop_on _ _ _ _ _ HM.out).mono ?_; rintro e w3 ⟨rfl, hr3, ho3⟩
            have HP3 := Lib.hid ((HS1.out.step H2.out HO2.out hr3 ho3 rsim_nil (Nat.le_refl _)).more (Nat.zero_le (t + 1)))
            have HG3 := Lib.hid (HG2.out.only ho3 (by omega))
            clear hr3 ho3
            go_wp2_with fail
            go_meet
            exact ⟨0, false, false, _, _, [], rfl, rfl, rfl, rfl, HP3.out, HG3.out⟩
      case rest =>
        clear HS0 HS1 HG1
        obtain ⟨xv, mv, on, P, v, xs, rfl, rfl, rfl, rfl, hst, hbg⟩ := hcut
        have HS := Lib.hid hst
        have HG := Lib.hid hbg
        have g1 := (hbg.cell 1).trans rfl
        have c0 := hst.rf.c0
        have HPW := Lib.hid (show 0 ≤ IntKind.u64.wrap (pg + 1) ∧ IntKind.u64.wrap (pg + 1) < 18446744073709551616 from by unfold IntKind.wrap; simp [IntKind.bits, IntKind.signed]; omega)
        have hxx : (xv != xv) = false := by simp
        have hmm : (mv != mv) = false := by simp
        have hoo : (on != on) = false := by simp
        have hp1 : (P pg != P pg) = false := by simp
        clear hst hbg hkk hb8
        go_wp2_with fail
        go_quiet (first
          | (go_at_call 18; refine quiet_left (don_any _ _ _ _ _ _ (HS.out.quiet (below_drewN (Below.refl _ _) _)).lg))
          | (go_at_call 19; refine quiet_left (dhas_any _ _ _ _ _ _ _ (HS.out.quiet (below_drewN (Below.refl _ _) _)).lg (by first | exact HPG.out | exact HPW.out)))
          | (go_at_call 20; refine Calls.quiet_of (rhas_any _ _ _ _ _ _ _ _ (HS.out.quiet (below_drewN (Below.refl _ _) _)).rf HS.out.sim (by have := HS.out.len; omega))))
        go_wp2
        exact ⟨⟨t + 1, on, P, v, xs, by go_num, by omega, HS.out.quiet (below_drewN (Below.refl _ _) _)⟩, by simp only [intOf]; omega⟩
    · have hlt' : m ≤ t ∨ (t < m ∧ 100 ≤ t) := by omega
      clear hlt
      rcases hlt' with h | ⟨h1, h2⟩
      · go_wp2_with fail
        refine (told_any _).mono ?_; rintro e w9 ⟨rfl, hb9⟩
        go_wp2
        go_ret
        exact ⟨rfl, HS0.out.be.trans (hb9.mono HS0.out.be.size)⟩
      · go_wp2_with fail
        refine (told_any _).mono ?_; rintro e w9 ⟨rfl, hb9⟩
        go_wp2
        go_ret
        exact ⟨rfl, HS0.out.be.trans (hb9.mono HS0.out.be.size)⟩
end Go.Proofs.Ythnefhkacgkacaa
