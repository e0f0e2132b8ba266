/- The walk of the statement HostPlays: it returns true. -/
import Derived.Test.YtephgikeofkblaaHosr4
import Derived.Test.YtephgikeofkblaaInts
import Derived.Test.YtephgikeofkblaaOps
import Derived.Test.YtephgikeofkblaaTake
import Derived.Deep.DeepCutAuto
import Derived.Deep.CutBlock
namespace Go.Proofs.Ytephgikeofkblaa
open Go.RowKit Mf

/-- What holds of the memory behind t rounds. -/
structure PS (w wr : World) (b mb rb B N : Nat) (ps : List RP) : Prop where
  bk : BookAt wr b mb N ps.length (rf ps)
  rf : RefE wr rb B ps
  zp : ZP ps
  be : Below w.heap.size w wr

theorem PS.quiet {w wr w2 : World} {b mb rb B N : Nat} {ps : List RP} (h : PS w wr b mb rb B N ps) (hb : Below wr.heap.size wr w2) : PS w w2 b mb rb B N ps :=
  ⟨h.bk.below hb, by obtain ⟨v, hv⟩ := h.rf; exact ⟨v, hv.below hb⟩, h.zp, h.be.trans (hb.mono h.be.size)⟩

theorem RefAt.keep {w w' : World} {rb B : Nat} {v : Value} {ps : List RP} {S : Nat → Prop} (h : RefAt w rb B v ps) (ho : Only S w w') (h1 : ¬ S rb) (h2 : ∀ g, v.ownBlock = some g → ¬ S g) : RefAt w' rb B v ps := by
  refine ⟨h.blk.only ho h1, ?_, h.lt⟩
  obtain ⟨h3, h4⟩ := h.own
  refine ⟨h3, ?_⟩
  rcases h4 with h4 | ⟨g, cap, cur, e1, e2, e3, e4⟩
  · exact .inl h4
  · subst e1
    exact .inr ⟨g, cap, cur, rfl, e2, (ho.block g (Array.getElem?_eq_some_iff.1 e3).1 (h2 g rfl)).trans e3, e4⟩

theorem own_own_ne {w : World} {b1 b2 s1 s2 n1 n2 c1 g : Nat} {e1 e2 : TypeId} {v : Value} {xs ys : List Value} (h1 : w.ownsRow b1 e1 s1 (.slice (some ⟨g, 0, none⟩) n1 c1) n1 xs) (h2 : w.ownsRow b2 e2 s2 v n2 ys) (hne : e1 ≠ e2) : ∀ k, v.ownBlock = some k → k ≠ g := by
  intro k hk e
  subst e
  rcases h1.2 with ⟨h, _⟩ | ⟨g', cap, cur, h, _, h3, _⟩
  · cases h
  · injection h with h
    injection h with h
    injection h with h
    subst h
    rcases h2.2 with ⟨rfl, _⟩ | ⟨g2, cap2, cur2, rfl, _, h5, _⟩
    · cases hk
    · cases hk
      rw [h3] at h5
      injection h5 with h5
      injection h5 with _ h5
      exact hne h5

theorem PS.sown {w wr : World} {b mb rb B N base n c g : Nat} {ps : List RP} {xs : List Value} (h : PS w wr b mb rb B N ps) (ho : wr.ownsRow base 3 1 (.slice (some ⟨g, 0, none⟩) n c) n xs) {p : Addr} (hp : p.block = g) (hg : b < base ∧ mb < base ∧ rb < base ∧ w.heap.size ≤ base) (u : Value) : PS w (wr.setCell p u) b mb rb B N ps := by
  have hlt := (ho.lt g rfl).1
  have o1 : Only (fun k => k = g) wr (wr.setCell p u) := Only.setCell (S := fun k => k = g) (Only.refl _ wr) (.inl hp) u
  refine ⟨h.bk.only o1 (by omega) (by omega), ?_, h.zp, ?_⟩
  · obtain ⟨v, hv⟩ := h.rf
    exact ⟨v, hv.keep o1 (by omega) (own_own_ne ho hv.own (by decide))⟩
  · exact below_only h.be o1 (by rintro k rfl; omega) h.be.size

theorem rf_dom {ps : List RP} {j : Int} (h : (rf ps j).isSome = true) : 1 ≤ j ∧ j ≤ ps.length := by
  rcases rf_cases ps j with ⟨_, h1⟩ | ⟨_, _, _, h1⟩ | ⟨_, _, _, _, _, h1⟩ | ⟨i, x, h1, h2, h3, h4⟩
  · rw [h1] at h; cases h
  · rw [h1] at h; cases h
  · rw [h1] at h; cases h
  · have := (List.getElem?_eq_some_iff.1 h2).1
    omega

def RelP (w : World) (b mb rb B : Nat) (iv : Value) (wr : World) : Prop := ∃ (t : Nat) (ps : List RP), iv = .int .i64 t ∧ ps.length ≤ t ∧ t ≤ 100 ∧ PS w wr b mb rb B t ps
def RelZ (w : World) (b mb rb B N : Nat) (ps : List RP) (base : Nat) (A : Option Addr) (n c : Nat) (iv : Value) (wr : World) : Prop := ∃ (q : Nat) (zs : List Int), iv = .int .i64 q ∧ q ≤ n ∧ PS w wr b mb rb B N ps ∧ wr.ownsRow base 3 1 (.slice A n c) n (zs.map (Value.int .i64))
def CutP (w : World) (b mb rb B t g6 : Nat) (cs : Array Value) (x y m n : Value) (wx : World) : Prop := ∃ (xv mv : Int) (ps : List RP), x = .int .i64 xv ∧ y = .int .i64 xv ∧ m = .int .i64 mv ∧ n = .int .i64 mv ∧ ps.length ≤ t + 1 ∧ PS w wx b mb rb B (t + 1) ps ∧ Blk wx g6 33 cs

theorem not_RS {w : World} {g rb B : Nat} {t : TypeId} {cs : Array Value} (h : Blk w g t cs) (ht : t ≠ 58) (hg : g ≠ rb) : ¬ RS w rb B g := by
  rintro (h1 | ⟨_, cur, h1⟩)
  · exact hg h1
  · unfold Blk at h
    rw [h] at h1
    injection h1 with h1
    injection h1 with _ h1
    exact ht h1

/-- A step of both books. -/
theorem PS.step {w wr w2 w3 : World} {b mb rb B N N' len : Nat} {ps : List RP} {r : Value} {F : Int → Option Pg} {e : Ending} (h : PS w wr b mb rb B N ps) (hd : w.heap.size ≤ mb ∧ mb < b ∧ b < rb ∧ rb < B) (hb : BookAt w2 b mb N' len F) (ho : Only (fun k => k = b ∨ k = mb) wr w2) (hr : RefStep w2 rb B ps len r F e w3) : ∃ ps', ps'.length = len ∧ PS w w3 b mb rb B N' ps' := by
  obtain ⟨_, ps', h3, hF, hl, hz, ho3⟩ := hr
  have hF' : F = Go.Proofs.Ytephgikeofkblaa.rf ps' := funext fun k => (hF k).symm
  subst hF'
  refine ⟨ps', hl, ⟨by rw [hl]; exact hb.only ho3 (by rintro (h | ⟨h, _⟩) <;> omega) (by rintro (h | ⟨h, _⟩) <;> omega), h3, hz h.zp, ?_⟩⟩
  have hs := h.be.size
  exact below_only (below_only h.be ho (by rintro k (rfl | rfl) <;> omega) hs) ho3 (by rintro k (rfl | ⟨h, _⟩) <;> omega) (by have := ho.size; omega)

theorem PS.mid {w wr w2 : World} {b mb rb B N : Nat} {ps : List RP} (h : PS w wr b mb rb B N ps) (hd : w.heap.size ≤ mb ∧ mb < b ∧ b < rb ∧ rb < B) (ho : Only (fun k => k = b ∨ k = mb) wr w2) : RefE w2 rb B ps := by
  obtain ⟨v, hv⟩ := h.rf
  exact ⟨v, hv.only ho (by omega) (by rintro k (rfl | rfl) <;> omega)⟩

theorem tmod_bd6 (a : Int) : a.tmod 6 % 6 = 0 ∨ a.tmod 6 % 6 = 1 ∨ a.tmod 6 % 6 = 2 ∨ a.tmod 6 % 6 = 3 ∨ a.tmod 6 % 6 = 4 ∨ a.tmod 6 % 6 = 5 := by omega

set_option maxRecDepth 100000 in
set_option maxHeartbeats 4000000 in
theorem hostPlays_walk (A : Option Addr) (m c : Nat) (xs : List Value) (w : World) (hr : Reads w w.heap.size 5 A m xs) (hx : CellsR [.i .i64, .i .i64, .i .i64, .i .i64, .i .u64] xs) :
    Calls Try.prog 3 #[.slice A m c] w fun e w' => e = .returned (.bool true) ∧ Below w.heap.size w w' := by
  have HR := Lib.hid hr
  have HX := Lib.hid hx
  clear hr hx
  go_enter Try.func3, Try.ntmps3
  go_wp2_with fail
  refine (new_any _).mono ?_; rintro e w1 ⟨rfl, h1, hb1⟩
  have H1 := Lib.hid h1
  have HB1 := Lib.hid hb1
  have hlt1 : w.heap.size + 1 < w1.heap.size := h1.blk.lt
  clear h1 hb1
  go_wp2_with fail
  go_loopw [5] (RelP w (w.heap.size + 1) w.heap.size w1.heap.size (w1.heap.size + 1)) (fun i _ => 100 - (intOf i).toNat)
  case atStart =>
    have hbn := (Below.refl w1.heap.size w1).alloc (Nat.le_refl _) (.cells #[.slice none 0 0] 28)
    exact ⟨0, [], rfl, Nat.le_refl _, by omega, ⟨by rw [show rf [] = fun _ => none from by funext k; unfold rf; split <;> rfl]; exact H1.out.below hbn, ⟨.slice none 0 0, Blk.new w1 _ _, World.ownsRow_nil _ _ _ _, Nat.lt_succ_self _⟩, (fun x hx => by cases hx), HB1.out.trans (hbn.mono HB1.out.size)⟩⟩
  case round =>
    obtain ⟨t, ps, rfl, hpl, ht, hst⟩ := hrel
    have HS0 := Lib.hid hst
    have HL := Lib.hid hpl
    clear hst hpl
    by_cases hlt : t < m ∧ t < 100
    · obtain ⟨l1, l2⟩ := hlt
      obtain ⟨ad, rfl, hadb, hcell⟩ := (HR.out.below HS0.out.be).2 (by omega)
      have hlen := HR.out.1
      have hint : ∀ q k, q < 5 → ([.i .i64, .i .i64, .i .i64, .i .i64, .i .u64] : List CK)[q]? = some (.i k) → ∃ z, wr.cell? (ad.add (t * 5 + q)) = some (.int k z) ∧ (Lit.int k z).wf = true := fun q k hq hk => by
        have hq' : t * 5 + q < xs.length := by omega
        obtain ⟨z, hz, hwz⟩ := HX.out.int hq' (kind_at (ks := [.i .i64, .i .i64, .i .i64, .i .i64, .i .u64]) hq hk)
        exact ⟨z, hcell _ _ hz, hwz⟩
      obtain ⟨kd, hc0, _⟩ := hint 0 .i64 (by decide) rfl
      rw [Nat.add_zero] at hc0
      obtain ⟨fr, hc1, _⟩ := hint 1 .i64 (by decide) rfl
      obtain ⟨hh, hc2, hwh⟩ := hint 2 .i64 (by decide) rfl
      obtain ⟨gu, hc3, _⟩ := hint 3 .i64 (by decide) rfl
      obtain ⟨pg, hc4, _⟩ := hint 4 .u64 (by decide) rfl
      rw [add_field' _ _ _ (by decide)] at hc1 hc2 hc3 hc4
      have hh64 : -9223372036854775808 ≤ hh ∧ hh ≤ 9223372036854775807 := by
        have := hwh
        simp [Lit.wf, IntKind.min, IntKind.max, IntKind.bits, IntKind.signed] at this
        omega
      obtain ⟨kr, hkr⟩ : ∃ kr, kd.tmod 6 % 6 = kr := ⟨_, rfl⟩
      have hkk := tmod_bd6 kd
      have hkr' : (kd.tmod 6 + 6) % 6 = kr := by rw [Int.add_emod_right]; exact hkr
      rw [hkr] at hkk
      have l3 : decide ((t : Int) < 100) = true := by simp; omega
      have hb6 := tmod_bdn kd 6 (by decide)
      have HD := Lib.hid (show w.heap.size ≤ w.heap.size ∧ w.heap.size < w.heap.size + 1 ∧ w.heap.size + 1 < w1.heap.size ∧ w1.heap.size < w1.heap.size + 1 from by omega)
      have hbo := (Below.refl wr.heap.size wr).alloc (Nat.le_refl _) (.cells #[.int .i64 kd, .int .i64 fr, .int .i64 hh, .int .i64 gu, .int .u64 pg] 33)
      have HS1 := Lib.hid (HS0.out.quiet hbo)
      have HG1 := Lib.hid (Blk.new wr 33 #[.int .i64 kd, .int .i64 fr, .int .i64 hh, .int .i64 gu, .int .u64 pg])
      have hg6 : w1.heap.size + 1 ≤ wr.heap.size := by obtain ⟨v, hv⟩ := HS0.out.rf; exact hv.blk.lt
      clear hcell hint hlen hbo
      go_upto_block 2 with (fail)
      rw [hkr']
      go_cut [7, 8, 9, 10] (CutP w (w.heap.size + 1) w.heap.size w1.heap.size (w1.heap.size + 1) t wr.heap.size #[.int .i64 kd, .int .i64 fr, .int .i64 hh, .int .i64 gu, .int .u64 pg])
      case first =>
        clear hc0 hc1 hc2 hc3 hc4
        rcases hkk with rfl | rfl | rfl | rfl | rfl | rfl
        · by_cases hfr : fr < 0
          · go_wp2_with fail
            refine (add_neg _ _ _ (by omega)).mono ?_; rintro e w2 ⟨rfl, rfl⟩
            go_wp2_with fail
            refine (radd_neg _ _ _ (by omega)).mono ?_; rintro e w3 ⟨rfl, rfl⟩
            go_wp2_with fail
            go_meet
            exact ⟨1, 0, ps, rfl, rfl, rfl, rfl, by have := HL.out; omega, ⟨HS1.out.bk.mono (Nat.le_succ _), HS1.out.rf, HS1.out.zp, HS1.out.be⟩, HG1.out⟩
          · go_wp2_with fail
            refine (add_ok _ _ _ _ _ _ _ HS1.out.bk (by omega) (by have := HL.out; omega) (by unfold maxLen; omega)).mono ?_; rintro e w2 ⟨rfl, h2, ho2⟩
            have HM := Lib.hid (HS1.out.mid HD.out ho2)
            have HG2 := Lib.hid (HG1.out.only ho2 (by omega))
            have g2 := (HG2.out.cell 1).trans rfl
            have hB2 : w1.heap.size + 1 ≤ w2.heap.size := by have := ho2.size; simp at this; omega
            have H2 := Lib.hid h2
            have HO2 := Lib.hid ho2
            clear h2 ho2
            go_wp2_with fail
            refine (radd_ok _ _ _ _ _ HM.out (by have := HL.out; omega) (by omega) hB2).mono ?_; rintro e w3 hrs
            obtain ⟨ps', hl', hps'⟩ := HS1.out.step HD.out (by simpa using H2.out) HO2.out hrs
            obtain ⟨rfl, _, _, _, _, _, ho3⟩ := hrs
            have HG3 := HG2.out.only ho3 (not_RS HG2.out (by decide) (by omega))
            clear ho3
            go_wp2_with fail
            go_meet
            exact ⟨0, (ps.length : Int) + 1, ps', rfl, rfl, rfl, rfl, by have := HL.out; omega, hps', HG3⟩
        · by_cases hfr : fr < 0
          · go_wp2_with fail
            refine (add_neg _ _ _ (by omega)).mono ?_; rintro e w2 ⟨rfl, rfl⟩
            go_wp2_with fail
            refine (radd_neg _ _ _ (by omega)).mono ?_; rintro e w3 ⟨rfl, rfl⟩
            go_wp2_with fail
            go_meet
            exact ⟨1, 0, ps, rfl, rfl, rfl, rfl, by have := HL.out; omega, ⟨HS1.out.bk.mono (Nat.le_succ _), HS1.out.rf, HS1.out.zp, HS1.out.be⟩, HG1.out⟩
          · go_wp2_with fail
            refine (add_ok _ _ _ _ _ _ _ HS1.out.bk (by omega) (by have := HL.out; omega) (by unfold maxLen; omega)).mono ?_; rintro e w2 ⟨rfl, h2, ho2⟩
            have HM := Lib.hid (HS1.out.mid HD.out ho2)
            have HG2 := Lib.hid (HG1.out.only ho2 (by omega))
            have g2 := (HG2.out.cell 1).trans rfl
            have hB2 : w1.heap.size + 1 ≤ w2.heap.size := by have := ho2.size; simp at this; omega
            have H2 := Lib.hid h2
            have HO2 := Lib.hid ho2
            clear h2 ho2
            go_wp2_with fail
            refine (radd_ok _ _ _ _ _ HM.out (by have := HL.out; omega) (by omega) hB2).mono ?_; rintro e w3 hrs
            obtain ⟨ps', hl', hps'⟩ := HS1.out.step HD.out (by simpa using H2.out) HO2.out hrs
            obtain ⟨rfl, _, _, _, _, _, ho3⟩ := hrs
            have HG3 := HG2.out.only ho3 (not_RS HG2.out (by decide) (by omega))
            clear ho3
            go_wp2_with fail
            go_meet
            exact ⟨0, (ps.length : Int) + 1, ps', rfl, rfl, rfl, rfl, by have := HL.out; omega, hps', HG3⟩
        · go_wp2_with fail
          have HSd := Lib.hid (HS1.out.quiet (Below.refl _ _).drew)
          have HGd := Lib.hid HG1.out.drew
          have g2 := (HG1.out.cell 2).trans rfl
          have g3 := (HG1.out.cell 3).trans rfl
          have g4 := (HG1.out.cell 4).trans rfl
          refine wp_region_held_drew (S := (fun w' => w'.cell? ⟨wr.heap.size, 2, none⟩ = some (.int .i64 hh) ∧ w'.cell? ⟨wr.heap.size, 3, none⟩ = some (.int .i64 gu) ∧ w'.cell? ⟨wr.heap.size, 4, none⟩ = some (.int .u64 pg))) (by kernel_rfl) ?_ (fun hHeld => ?_)
          · exact ⟨g2, g3, g4⟩
          ((refine takeY 0 (v := ?_) rfl (by kernel_rfl) (by kernel_rfl) (by kernel_rfl) (fun _ _ _ h => h) (by rfl) (by assumption) ?_ ?_; rotate_left; · (intro w hSw; (try dsimp only at hSw); go_simp; (first | done | with_reducible rfl))))
          (try simp only [Act.put, List.setIfInBounds_toArray, List.set_cons_zero, List.set_cons_succ])
          ((refine takeY 1 (v := ?_) rfl (by kernel_rfl) (by kernel_rfl) (by kernel_rfl) (fun _ _ _ h => h) (by rfl) (by assumption) ?_ ?_; rotate_left; · (intro w hSw; (try dsimp only at hSw); go_simp; (first | done | with_reducible rfl))))
          (try simp only [Act.put, List.setIfInBounds_toArray, List.set_cons_zero, List.set_cons_succ])
          ((refine takeY 2 (v := ?_) rfl (by kernel_rfl) (by kernel_rfl) (by kernel_rfl) (fun _ _ _ h => h) (by rfl) (by assumption) ?_ ?_; rotate_left; · (intro w hSw; (try dsimp only at hSw); go_simp; (first | done | with_reducible rfl))))
          (try simp only [Act.put, List.setIfInBounds_toArray, List.set_cons_zero, List.set_cons_succ])
          ((refine takeY 3 (v := ?_) rfl (by kernel_rfl) (by kernel_rfl) (by kernel_rfl) (fun _ _ _ h => h) (by rfl) (by assumption) ?_ ?_; rotate_left; · (intro w hSw; (try dsimp only at hSw); go_simp; (first | done | with_reducible rfl))))
          (try simp only [Act.put, List.setIfInBounds_toArray, List.set_cons_zero, List.set_cons_succ])
          ((refine takeY 4 (v := ?_) rfl (by kernel_rfl) (by kernel_rfl) (by kernel_rfl) (fun _ _ _ h => h) (by rfl) (by assumption) ?_ ?_; rotate_left; · (intro w hSw; (try dsimp only at hSw); go_simp; (first | done | with_reducible rfl))))
          (try simp only [Act.put, List.setIfInBounds_toArray, List.set_cons_zero, List.set_cons_succ])
          try (((refine takeY 6 (v := ?_) rfl (by kernel_rfl) (by decide +kernel) (by decide +kernel) (fun _ _ _ h => h) (by rfl) (by assumption) ?_ ?_; rotate_left; · (intro w hSw; (try dsimp only at hSw); go_simp; (first | done | with_reducible rfl)))); (try simp only [Act.put, List.setIfInBounds_toArray, List.set_cons_zero, List.set_cons_succ]))
          try (((refine takeY 7 (v := ?_) rfl (by kernel_rfl) (by decide +kernel) (by decide +kernel) (fun _ _ _ h => h) (by rfl) (by assumption) ?_ ?_; rotate_left; · (intro w hSw; (try dsimp only at hSw); go_simp; (first | done | with_reducible rfl)))); (try simp only [Act.put, List.setIfInBounds_toArray, List.set_cons_zero, List.set_cons_succ]))
          try (((refine takeY 8 (v := ?_) rfl (by kernel_rfl) (by decide +kernel) (by decide +kernel) (fun _ _ _ h => h) (by rfl) (by assumption) ?_ ?_; rotate_left; · (intro w hSw; (try dsimp only at hSw); go_simp; (first | done | with_reducible rfl)))); (try simp only [Act.put, List.setIfInBounds_toArray, List.set_cons_zero, List.set_cons_succ]))
          try (((refine takeY 9 (v := ?_) rfl (by kernel_rfl) (by decide +kernel) (by decide +kernel) (fun _ _ _ h => h) (by rfl) (by assumption) ?_ ?_; rotate_left; · (intro w hSw; (try dsimp only at hSw); go_simp; (first | done | with_reducible rfl)))); (try simp only [Act.put, List.setIfInBounds_toArray, List.set_cons_zero, List.set_cons_succ]))
          try (((refine takeY 10 (v := ?_) rfl (by kernel_rfl) (by decide +kernel) (by decide +kernel) (fun _ _ _ h => h) (by rfl) (by assumption) ?_ ?_; rotate_left; · (intro w hSw; (try dsimp only at hSw); go_simp; (first | done | with_reducible rfl)))); (try simp only [Act.put, List.setIfInBounds_toArray, List.set_cons_zero, List.set_cons_succ]))
          first
            | (refine takeN 5 rfl (by kernel_rfl) (by kernel_rfl) (by kernel_rfl) (fun _ _ _ h => h) (by rfl) (by assumption) ?_)
            | (refine stepH 5 rfl (by kernel_rfl) (by rfl) (fun K hK => ?_)
               go_simp
               ((with_reducible refine (lend_any _ _ _ _ _ hh gu pg _ HSd.out.bk hwh (by unfold maxLen; omega)).mono ?_); rintro e w2 ⟨rfl, h2, ho2⟩; have HM := Lib.hid (HSd.out.mid HD.out (ho2.mono (fun k e => .inr e))); have HG2 := Lib.hid (HGd.out.only ho2 (by omega)); have H2 := Lib.hid h2; have HO2 := Lib.hid (ho2.mono (S' := fun k => k = w.heap.size + 1 ∨ k = w.heap.size) (fun k e => .inr e)); clear h2 ho2; have g2 := (HG2.out.cell 2).trans rfl; have g3 := (HG2.out.cell 3).trans rfl; have g4 := (HG2.out.cell 4).trans rfl)
               (refine hK.out _ _ ?_ (fun hHeld => ?_))
               · exact ⟨g2, g3, g4⟩
               clear hK K)
          try (((refine takeY 6 (v := ?_) rfl (by kernel_rfl) (by decide +kernel) (by decide +kernel) (fun _ _ _ h => h) (by rfl) (by assumption) ?_ ?_; rotate_left; · (intro w hSw; (try dsimp only at hSw); go_simp; (first | done | with_reducible rfl)))); (try simp only [Act.put, List.setIfInBounds_toArray, List.set_cons_zero, List.set_cons_succ]))
          try (((refine takeY 7 (v := ?_) rfl (by kernel_rfl) (by decide +kernel) (by decide +kernel) (fun _ _ _ h => h) (by rfl) (by assumption) ?_ ?_; rotate_left; · (intro w hSw; (try dsimp only at hSw); go_simp; (first | done | with_reducible rfl)))); (try simp only [Act.put, List.setIfInBounds_toArray, List.set_cons_zero, List.set_cons_succ]))
          try (((refine takeY 8 (v := ?_) rfl (by kernel_rfl) (by decide +kernel) (by decide +kernel) (fun _ _ _ h => h) (by rfl) (by assumption) ?_ ?_; rotate_left; · (intro w hSw; (try dsimp only at hSw); go_simp; (first | done | with_reducible rfl)))); (try simp only [Act.put, List.setIfInBounds_toArray, List.set_cons_zero, List.set_cons_succ]))
          try (((refine takeY 9 (v := ?_) rfl (by kernel_rfl) (by decide +kernel) (by decide +kernel) (fun _ _ _ h => h) (by rfl) (by assumption) ?_ ?_; rotate_left; · (intro w hSw; (try dsimp only at hSw); go_simp; (first | done | with_reducible rfl)))); (try simp only [Act.put, List.setIfInBounds_toArray, List.set_cons_zero, List.set_cons_succ]))
          try (((refine takeY 10 (v := ?_) rfl (by kernel_rfl) (by decide +kernel) (by decide +kernel) (fun _ _ _ h => h) (by rfl) (by assumption) ?_ ?_; rotate_left; · (intro w hSw; (try dsimp only at hSw); go_simp; (first | done | with_reducible rfl)))); (try simp only [Act.put, List.setIfInBounds_toArray, List.set_cons_zero, List.set_cons_succ]))
          first
            | (refine takeN 11 rfl (by kernel_rfl) (by kernel_rfl) (by kernel_rfl) (fun _ _ _ h => h) (by rfl) (by assumption) ?_)
            | (refine stepH 11 rfl (by kernel_rfl) (by rfl) (fun K hK => ?_)
               go_simp
               ((with_reducible refine (rlend_any _ _ ps hh gu pg _ HM.out (by have := HL.out; omega) hh64).mono ?_); rintro e w3 hrs; (obtain ⟨ps', hl', hps'⟩ := HSd.out.step HD.out H2.out HO2.out hrs); (obtain ⟨rfl, _, _, _, _, _, ho3⟩ := hrs); (have HG3 := HG2.out.only ho3 (not_RS HG2.out (by decide) (by omega))); clear ho3; have g2 := (HG3.cell 2).trans rfl; have g3 := (HG3.cell 3).trans rfl; have g4 := (HG3.cell 4).trans rfl)
               (refine hK.out _ _ ?_ (fun hHeld => ?_))
               · exact ⟨g2, g3, g4⟩
               clear hK K)
          first
            | (refine takeN 12 rfl (by kernel_rfl) (by kernel_rfl) (by kernel_rfl) (fun _ _ _ h => h) (by rfl) (by assumption) ?_)
            | (refine stepH 12 rfl (by kernel_rfl) (by rfl) (fun K hK => ?_)
               go_simp
               skip
               (refine hK.out _ _ ?_ (fun hHeld => ?_))
               · exact ⟨g2, g3, g4⟩
               clear hK K)
          first
            | (refine takeN 13 rfl (by kernel_rfl) (by kernel_rfl) (by kernel_rfl) (fun _ _ _ h => h) (by rfl) (by assumption) ?_)
            | (refine stepH 13 rfl (by kernel_rfl) (by rfl) (fun K hK => ?_)
               go_simp
               skip
               (refine hK.out _ _ ?_ (fun hHeld => ?_))
               · exact ⟨g2, g3, g4⟩
               clear hK K)
          refine wpAnyH_done (by kernel_rfl) ?_ _
          go_wp2_with fail
          go_meet
          exact ⟨lendE (rf ps) hh, 0, ps', rfl, rfl, rfl, rfl, by have := HL.out; omega, hps', HG3⟩
        · go_wp2_with fail
          have HSd := Lib.hid (HS1.out.quiet (Below.refl _ _).drew)
          have HGd := Lib.hid HG1.out.drew
          have g2 := (HG1.out.cell 2).trans rfl
          have g3 := (HG1.out.cell 3).trans rfl
          have g4 := (HG1.out.cell 4).trans rfl
          refine wp_region_held_drew (S := (fun w' => w'.cell? ⟨wr.heap.size, 2, none⟩ = some (.int .i64 hh) ∧ w'.cell? ⟨wr.heap.size, 3, none⟩ = some (.int .i64 gu) ∧ w'.cell? ⟨wr.heap.size, 4, none⟩ = some (.int .u64 pg))) (by kernel_rfl) ?_ (fun hHeld => ?_)
          · exact ⟨g2, g3, g4⟩
          ((refine takeY 0 (v := ?_) rfl (by kernel_rfl) (by kernel_rfl) (by kernel_rfl) (fun _ _ _ h => h) (by rfl) (by assumption) ?_ ?_; rotate_left; · (intro w hSw; (try dsimp only at hSw); go_simp; (first | done | with_reducible rfl))))
          (try simp only [Act.put, List.setIfInBounds_toArray, List.set_cons_zero, List.set_cons_succ])
          ((refine takeY 1 (v := ?_) rfl (by kernel_rfl) (by kernel_rfl) (by kernel_rfl) (fun _ _ _ h => h) (by rfl) (by assumption) ?_ ?_; rotate_left; · (intro w hSw; (try dsimp only at hSw); go_simp; (first | done | with_reducible rfl))))
          (try simp only [Act.put, List.setIfInBounds_toArray, List.set_cons_zero, List.set_cons_succ])
          ((refine takeY 2 (v := ?_) rfl (by kernel_rfl) (by kernel_rfl) (by kernel_rfl) (fun _ _ _ h => h) (by rfl) (by assumption) ?_ ?_; rotate_left; · (intro w hSw; (try dsimp only at hSw); go_simp; (first | done | with_reducible rfl))))
          (try simp only [Act.put, List.setIfInBounds_toArray, List.set_cons_zero, List.set_cons_succ])
          ((refine takeY 3 (v := ?_) rfl (by kernel_rfl) (by kernel_rfl) (by kernel_rfl) (fun _ _ _ h => h) (by rfl) (by assumption) ?_ ?_; rotate_left; · (intro w hSw; (try dsimp only at hSw); go_simp; (first | done | with_reducible rfl))))
          (try simp only [Act.put, List.setIfInBounds_toArray, List.set_cons_zero, List.set_cons_succ])
          ((refine takeY 4 (v := ?_) rfl (by kernel_rfl) (by kernel_rfl) (by kernel_rfl) (fun _ _ _ h => h) (by rfl) (by assumption) ?_ ?_; rotate_left; · (intro w hSw; (try dsimp only at hSw); go_simp; (first | done | with_reducible rfl))))
          (try simp only [Act.put, List.setIfInBounds_toArray, List.set_cons_zero, List.set_cons_succ])
          try (((refine takeY 6 (v := ?_) rfl (by kernel_rfl) (by decide +kernel) (by decide +kernel) (fun _ _ _ h => h) (by rfl) (by assumption) ?_ ?_; rotate_left; · (intro w hSw; (try dsimp only at hSw); go_simp; (first | done | with_reducible rfl)))); (try simp only [Act.put, List.setIfInBounds_toArray, List.set_cons_zero, List.set_cons_succ]))
          try (((refine takeY 7 (v := ?_) rfl (by kernel_rfl) (by decide +kernel) (by decide +kernel) (fun _ _ _ h => h) (by rfl) (by assumption) ?_ ?_; rotate_left; · (intro w hSw; (try dsimp only at hSw); go_simp; (first | done | with_reducible rfl)))); (try simp only [Act.put, List.setIfInBounds_toArray, List.set_cons_zero, List.set_cons_succ]))
          try (((refine takeY 8 (v := ?_) rfl (by kernel_rfl) (by decide +kernel) (by decide +kernel) (fun _ _ _ h => h) (by rfl) (by assumption) ?_ ?_; rotate_left; · (intro w hSw; (try dsimp only at hSw); go_simp; (first | done | with_reducible rfl)))); (try simp only [Act.put, List.setIfInBounds_toArray, List.set_cons_zero, List.set_cons_succ]))
          try (((refine takeY 9 (v := ?_) rfl (by kernel_rfl) (by decide +kernel) (by decide +kernel) (fun _ _ _ h => h) (by rfl) (by assumption) ?_ ?_; rotate_left; · (intro w hSw; (try dsimp only at hSw); go_simp; (first | done | with_reducible rfl)))); (try simp only [Act.put, List.setIfInBounds_toArray, List.set_cons_zero, List.set_cons_succ]))
          try (((refine takeY 10 (v := ?_) rfl (by kernel_rfl) (by decide +kernel) (by decide +kernel) (fun _ _ _ h => h) (by rfl) (by assumption) ?_ ?_; rotate_left; · (intro w hSw; (try dsimp only at hSw); go_simp; (first | done | with_reducible rfl)))); (try simp only [Act.put, List.setIfInBounds_toArray, List.set_cons_zero, List.set_cons_succ]))
          first
            | (refine takeN 5 rfl (by kernel_rfl) (by kernel_rfl) (by kernel_rfl) (fun _ _ _ h => h) (by rfl) (by assumption) ?_)
            | (refine stepH 5 rfl (by kernel_rfl) (by rfl) (fun K hK => ?_)
               go_simp
               ((with_reducible refine (lend_any _ _ _ _ _ hh gu pg _ HSd.out.bk hwh (by unfold maxLen; omega)).mono ?_); rintro e w2 ⟨rfl, h2, ho2⟩; have HM := Lib.hid (HSd.out.mid HD.out (ho2.mono (fun k e => .inr e))); have HG2 := Lib.hid (HGd.out.only ho2 (by omega)); have H2 := Lib.hid h2; have HO2 := Lib.hid (ho2.mono (S' := fun k => k = w.heap.size + 1 ∨ k = w.heap.size) (fun k e => .inr e)); clear h2 ho2; have g2 := (HG2.out.cell 2).trans rfl; have g3 := (HG2.out.cell 3).trans rfl; have g4 := (HG2.out.cell 4).trans rfl)
               (refine hK.out _ _ ?_ (fun hHeld => ?_))
               · exact ⟨g2, g3, g4⟩
               clear hK K)
          try (((refine takeY 6 (v := ?_) rfl (by kernel_rfl) (by decide +kernel) (by decide +kernel) (fun _ _ _ h => h) (by rfl) (by assumption) ?_ ?_; rotate_left; · (intro w hSw; (try dsimp only at hSw); go_simp; (first | done | with_reducible rfl)))); (try simp only [Act.put, List.setIfInBounds_toArray, List.set_cons_zero, List.set_cons_succ]))
          try (((refine takeY 7 (v := ?_) rfl (by kernel_rfl) (by decide +kernel) (by decide +kernel) (fun _ _ _ h => h) (by rfl) (by assumption) ?_ ?_; rotate_left; · (intro w hSw; (try dsimp only at hSw); go_simp; (first | done | with_reducible rfl)))); (try simp only [Act.put, List.setIfInBounds_toArray, List.set_cons_zero, List.set_cons_succ]))
          try (((refine takeY 8 (v := ?_) rfl (by kernel_rfl) (by decide +kernel) (by decide +kernel) (fun _ _ _ h => h) (by rfl) (by assumption) ?_ ?_; rotate_left; · (intro w hSw; (try dsimp only at hSw); go_simp; (first | done | with_reducible rfl)))); (try simp only [Act.put, List.setIfInBounds_toArray, List.set_cons_zero, List.set_cons_succ]))
          try (((refine takeY 9 (v := ?_) rfl (by kernel_rfl) (by decide +kernel) (by decide +kernel) (fun _ _ _ h => h) (by rfl) (by assumption) ?_ ?_; rotate_left; · (intro w hSw; (try dsimp only at hSw); go_simp; (first | done | with_reducible rfl)))); (try simp only [Act.put, List.setIfInBounds_toArray, List.set_cons_zero, List.set_cons_succ]))
          try (((refine takeY 10 (v := ?_) rfl (by kernel_rfl) (by decide +kernel) (by decide +kernel) (fun _ _ _ h => h) (by rfl) (by assumption) ?_ ?_; rotate_left; · (intro w hSw; (try dsimp only at hSw); go_simp; (first | done | with_reducible rfl)))); (try simp only [Act.put, List.setIfInBounds_toArray, List.set_cons_zero, List.set_cons_succ]))
          first
            | (refine takeN 11 rfl (by kernel_rfl) (by kernel_rfl) (by kernel_rfl) (fun _ _ _ h => h) (by rfl) (by assumption) ?_)
            | (refine stepH 11 rfl (by kernel_rfl) (by rfl) (fun K hK => ?_)
               go_simp
               ((with_reducible refine (rlend_any _ _ ps hh gu pg _ HM.out (by have := HL.out; omega) hh64).mono ?_); rintro e w3 hrs; (obtain ⟨ps', hl', hps'⟩ := HSd.out.step HD.out H2.out HO2.out hrs); (obtain ⟨rfl, _, _, _, _, _, ho3⟩ := hrs); (have HG3 := HG2.out.only ho3 (not_RS HG2.out (by decide) (by omega))); clear ho3; have g2 := (HG3.cell 2).trans rfl; have g3 := (HG3.cell 3).trans rfl; have g4 := (HG3.cell 4).trans rfl)
               (refine hK.out _ _ ?_ (fun hHeld => ?_))
               · exact ⟨g2, g3, g4⟩
               clear hK K)
          first
            | (refine takeN 12 rfl (by kernel_rfl) (by kernel_rfl) (by kernel_rfl) (fun _ _ _ h => h) (by rfl) (by assumption) ?_)
            | (refine stepH 12 rfl (by kernel_rfl) (by rfl) (fun K hK => ?_)
               go_simp
               skip
               (refine hK.out _ _ ?_ (fun hHeld => ?_))
               · exact ⟨g2, g3, g4⟩
               clear hK K)
          first
            | (refine takeN 13 rfl (by kernel_rfl) (by kernel_rfl) (by kernel_rfl) (fun _ _ _ h => h) (by rfl) (by assumption) ?_)
            | (refine stepH 13 rfl (by kernel_rfl) (by rfl) (fun K hK => ?_)
               go_simp
               skip
               (refine hK.out _ _ ?_ (fun hHeld => ?_))
               · exact ⟨g2, g3, g4⟩
               clear hK K)
          refine wpAnyH_done (by kernel_rfl) ?_ _
          go_wp2_with fail
          go_meet
          exact ⟨lendE (rf ps) hh, 0, ps', rfl, rfl, rfl, rfl, by have := HL.out; omega, hps', HG3⟩
        · go_wp2_with fail
          have HSd := Lib.hid (HS1.out.quiet (Below.refl _ _).drew)
          have HGd := Lib.hid HG1.out.drew
          have g2 := (HG1.out.cell 2).trans rfl
          have g3 := (HG1.out.cell 3).trans rfl
          have g4 := (HG1.out.cell 4).trans rfl
          refine wp_region_held_drew (S := (fun w' => w'.cell? ⟨wr.heap.size, 2, none⟩ = some (.int .i64 hh) ∧ w'.cell? ⟨wr.heap.size, 3, none⟩ = some (.int .i64 gu) ∧ w'.cell? ⟨wr.heap.size, 4, none⟩ = some (.int .u64 pg))) (by kernel_rfl) ?_ (fun hHeld => ?_)
          · exact ⟨g2, g3, g4⟩
          ((refine takeY 0 (v := ?_) rfl (by kernel_rfl) (by kernel_rfl) (by kernel_rfl) (fun _ _ _ h => h) (by rfl) (by assumption) ?_ ?_; rotate_left; · (intro w hSw; (try dsimp only at hSw); go_simp; (first | done | with_reducible rfl))))
          (try simp only [Act.put, List.setIfInBounds_toArray, List.set_cons_zero, List.set_cons_succ])
          ((refine takeY 1 (v := ?_) rfl (by kernel_rfl) (by kernel_rfl) (by kernel_rfl) (fun _ _ _ h => h) (by rfl) (by assumption) ?_ ?_; rotate_left; · (intro w hSw; (try dsimp only at hSw); go_simp; (first | done | with_reducible rfl))))
          (try simp only [Act.put, List.setIfInBounds_toArray, List.set_cons_zero, List.set_cons_succ])
          ((refine takeY 2 (v := ?_) rfl (by kernel_rfl) (by kernel_rfl) (by kernel_rfl) (fun _ _ _ h => h) (by rfl) (by assumption) ?_ ?_; rotate_left; · (intro w hSw; (try dsimp only at hSw); go_simp; (first | done | with_reducible rfl))))
          (try simp only [Act.put, List.setIfInBounds_toArray, List.set_cons_zero, List.set_cons_succ])
          try (((refine takeY 4 (v := ?_) rfl (by kernel_rfl) (by decide +kernel) (by decide +kernel) (fun _ _ _ h => h) (by rfl) (by assumption) ?_ ?_; rotate_left; · (intro w hSw; (try dsimp only at hSw); go_simp; (first | done | with_reducible rfl)))); (try simp only [Act.put, List.setIfInBounds_toArray, List.set_cons_zero, List.set_cons_succ]))
          try (((refine takeY 5 (v := ?_) rfl (by kernel_rfl) (by decide +kernel) (by decide +kernel) (fun _ _ _ h => h) (by rfl) (by assumption) ?_ ?_; rotate_left; · (intro w hSw; (try dsimp only at hSw); go_simp; (first | done | with_reducible rfl)))); (try simp only [Act.put, List.setIfInBounds_toArray, List.set_cons_zero, List.set_cons_succ]))
          try (((refine takeY 6 (v := ?_) rfl (by kernel_rfl) (by decide +kernel) (by decide +kernel) (fun _ _ _ h => h) (by rfl) (by assumption) ?_ ?_; rotate_left; · (intro w hSw; (try dsimp only at hSw); go_simp; (first | done | with_reducible rfl)))); (try simp only [Act.put, List.setIfInBounds_toArray, List.set_cons_zero, List.set_cons_succ]))
          first
            | (refine takeN 3 rfl (by kernel_rfl) (by kernel_rfl) (by kernel_rfl) (fun _ _ _ h => h) (by rfl) (by assumption) ?_)
            | (refine stepH 3 rfl (by kernel_rfl) (by rfl) (fun K hK => ?_)
               go_simp
               ((with_reducible refine (back_any _ _ _ _ _ hh _ HSd.out.bk hwh (by unfold maxLen; omega)).mono ?_); rintro e w2 ⟨rfl, h2, ho2⟩; have HM := Lib.hid (HSd.out.mid HD.out (ho2.mono (fun k e => .inr e))); have HG2 := Lib.hid (HGd.out.only ho2 (by omega)); have H2 := Lib.hid h2; have HO2 := Lib.hid (ho2.mono (S' := fun k => k = w.heap.size + 1 ∨ k = w.heap.size) (fun k e => .inr e)); clear h2 ho2; have g2 := (HG2.out.cell 2).trans rfl; have g3 := (HG2.out.cell 3).trans rfl; have g4 := (HG2.out.cell 4).trans rfl)
               (refine hK.out _ _ ?_ (fun hHeld => ?_))
               · exact ⟨g2, g3, g4⟩
               clear hK K)
          try (((refine takeY 4 (v := ?_) rfl (by kernel_rfl) (by decide +kernel) (by decide +kernel) (fun _ _ _ h => h) (by rfl) (by assumption) ?_ ?_; rotate_left; · (intro w hSw; (try dsimp only at hSw); go_simp; (first | done | with_reducible rfl)))); (try simp only [Act.put, List.setIfInBounds_toArray, List.set_cons_zero, List.set_cons_succ]))
          try (((refine takeY 5 (v := ?_) rfl (by kernel_rfl) (by decide +kernel) (by decide +kernel) (fun _ _ _ h => h) (by rfl) (by assumption) ?_ ?_; rotate_left; · (intro w hSw; (try dsimp only at hSw); go_simp; (first | done | with_reducible rfl)))); (try simp only [Act.put, List.setIfInBounds_toArray, List.set_cons_zero, List.set_cons_succ]))
          try (((refine takeY 6 (v := ?_) rfl (by kernel_rfl) (by decide +kernel) (by decide +kernel) (fun _ _ _ h => h) (by rfl) (by assumption) ?_ ?_; rotate_left; · (intro w hSw; (try dsimp only at hSw); go_simp; (first | done | with_reducible rfl)))); (try simp only [Act.put, List.setIfInBounds_toArray, List.set_cons_zero, List.set_cons_succ]))
          first
            | (refine takeN 7 rfl (by kernel_rfl) (by kernel_rfl) (by kernel_rfl) (fun _ _ _ h => h) (by rfl) (by assumption) ?_)
            | (refine stepH 7 rfl (by kernel_rfl) (by rfl) (fun K hK => ?_)
               go_simp
               ((with_reducible refine (rback_any _ _ ps hh _ HM.out (by have := HL.out; omega) hh64).mono ?_); rintro e w3 hrs; (obtain ⟨ps', hl', hps'⟩ := HSd.out.step HD.out H2.out HO2.out hrs); (obtain ⟨rfl, _, _, _, _, _, ho3⟩ := hrs); (have HG3 := HG2.out.only ho3 (not_RS HG2.out (by decide) (by omega))); clear ho3; have g2 := (HG3.cell 2).trans rfl; have g3 := (HG3.cell 3).trans rfl; have g4 := (HG3.cell 4).trans rfl)
               (refine hK.out _ _ ?_ (fun hHeld => ?_))
               · exact ⟨g2, g3, g4⟩
               clear hK K)
          first
            | (refine takeN 8 rfl (by kernel_rfl) (by kernel_rfl) (by kernel_rfl) (fun _ _ _ h => h) (by rfl) (by assumption) ?_)
            | (refine stepH 8 rfl (by kernel_rfl) (by rfl) (fun K hK => ?_)
               go_simp
               skip
               (refine hK.out _ _ ?_ (fun hHeld => ?_))
               · exact ⟨g2, g3, g4⟩
               clear hK K)
          first
            | (refine takeN 9 rfl (by kernel_rfl) (by kernel_rfl) (by kernel_rfl) (fun _ _ _ h => h) (by rfl) (by assumption) ?_)
            | (refine stepH 9 rfl (by kernel_rfl) (by rfl) (fun K hK => ?_)
               go_simp
               skip
               (refine hK.out _ _ ?_ (fun hHeld => ?_))
               · exact ⟨g2, g3, g4⟩
               clear hK K)
          refine wpAnyH_done (by kernel_rfl) ?_ _
          go_wp2_with fail
          go_meet
          exact ⟨backE (rf ps) hh, 0, ps', rfl, rfl, rfl, rfl, by have := HL.out; omega, hps', HG3⟩
        · go_wp2_with fail
          refine (drop_any _ _ _ _ _ hh _ HS1.out.bk hwh).mono ?_; rintro e w2 ⟨rfl, h2, ho2⟩
          have HM := Lib.hid (HS1.out.mid HD.out (ho2.mono (fun k e => .inr e)))
          have HG2 := Lib.hid (HG1.out.only ho2 (by omega))
          have g2 := (HG2.out.cell 2).trans rfl
          have H2 := Lib.hid (h2.mono (Nat.le_succ _))
          have HO2 := Lib.hid (ho2.mono (S' := fun k => k = w.heap.size + 1 ∨ k = w.heap.size) (fun k e => .inr e))
          clear h2 ho2
          go_wp2_with fail
          refine (rdrop_any _ _ ps hh _ HM.out (by have := HL.out; omega) hh64).mono ?_; rintro e w3 hrs
          obtain ⟨ps', hl', hps'⟩ := HS1.out.step HD.out H2.out HO2.out hrs
          obtain ⟨rfl, _, _, _, _, _, ho3⟩ := hrs
          have HG3 := HG2.out.only ho3 (not_RS HG2.out (by decide) (by omega))
          clear ho3
          go_wp2_with fail
          go_meet
          exact ⟨(dropE (rf ps) hh).2, (dropE (rf ps) hh).1, ps', rfl, rfl, rfl, rfl, by have := HL.out; omega, hps', HG3⟩
      case rest =>
        clear HS0 HL HS1 HG1
        obtain ⟨xv, mv, ps, rfl, rfl, rfl, rfl, hpl, hst, hbg⟩ := hcut
        have HS := Lib.hid hst
        have HL := Lib.hid hpl
        have HG := Lib.hid hbg
        have g1 := (hbg.cell 2).trans rfl
        clear hst hpl hbg hkk hb6
        go_wp2_with fail
        refine (frame_any _ _ _ _ _ hh _ HS.out.bk hwh).mono ?_; rintro e w2 ⟨rfl, hb2⟩
        have H2 := Lib.hid (HS.out.quiet hb2)
        have HG2 := Lib.hid (HG.out.below hb2 HG.out.lt)
        have g2 := (HG2.out.cell 2).trans rfl
        clear hb2 g1
        go_wp2_with fail
        refine (rframe_any _ _ _ hh _ H2.out.rf (by have := HL.out; omega) hh64).mono ?_; rintro e w3 ⟨rfl, rfl⟩
        go_wp2_with fail
        refine (lent_any _ _ _ _ _ hh _ H2.out.bk hwh).mono ?_; rintro e w4 ⟨rfl, hb4⟩
        have H4 := Lib.hid ((H2.out.quiet hb4).quiet ((Below.refl w4.heap.size w4).alloc (Nat.le_refl _) (.cells #[.int .i64 (pgAt (rf ps) hh).g, .int .u64 (pgAt (rf ps) hh).p] 31)))
        have HG4 := Lib.hid ((HG2.out.below hb4 HG2.out.lt).alloc (.cells #[.int .i64 (pgAt (rf ps) hh).g, .int .u64 (pgAt (rf ps) hh).p] 31))
        have HP4 := Lib.hid (Blk.new w4 31 #[.int .i64 (pgAt (rf ps) hh).g, .int .u64 (pgAt (rf ps) hh).p])
        have g4 := (HG4.out.cell 2).trans rfl
        clear hb4 g2
        go_wp2_with fail
        refine (rlent_any _ _ _ hh _ H4.out.rf H4.out.zp (by have := HL.out; omega) hh64).mono ?_; rintro e w5 ⟨rfl, hb5⟩
        have H5 := Lib.hid ((H4.out.quiet hb5).quiet ((Below.refl w5.heap.size w5).alloc (Nat.le_refl _) (.cells #[.int .i64 (pgAt (rf ps) hh).g, .int .u64 (pgAt (rf ps) hh).p] 31)))
        have HP5 := Lib.hid ((HP4.out.below hb5 HP4.out.lt).alloc (.cells #[.int .i64 (pgAt (rf ps) hh).g, .int .u64 (pgAt (rf ps) hh).p] 31))
        have HQ5 := Lib.hid (Blk.new w5 31 #[.int .i64 (pgAt (rf ps) hh).g, .int .u64 (pgAt (rf ps) hh).p])
        have hsz5 : w1.heap.size + 1 ≤ w5.heap.size := by
          obtain ⟨v, hv⟩ := H4.out.rf
          have h8 := hv.blk.lt
          have h9 := hb5.size
          omega
        clear hb5 g4
        go_wp2_with fail
        refine (list_any _ _ _ _ _ (UE ps.length) _ H5.out.bk (UE_sorted _) (by rw [UE_len]; have := HL.out; omega) (fun j hj => UE_mem.2 (rf_dom hj))).mono ?_; rintro e w6 ⟨v6, rfl, hown6, hb6⟩
        obtain ⟨A6, c6, rfl⟩ := own_slice hown6
        rw [show ((UE ps.length).filter fun i => (rf ps i).isSome) = LU (rf ps) ps.length from rfl] at hown6
        rw [show ((UE ps.length).filter fun i => (rf ps i).isSome) = LU (rf ps) ps.length from rfl]
        have H6 := Lib.hid (H5.out.quiet hb6)
        have HP6 := (HP5.out.below hb6 HP5.out.lt)
        have HQ6 := (HQ5.out.below hb6 HQ5.out.lt)
        have HO6 := Lib.hid hown6
        have p0 := (HP6.cell 0).trans rfl
        have p1 := (HP6.cell 1).trans rfl
        have q0 := (HQ6.cell 0).trans rfl
        have q1 := (HQ6.cell 1).trans rfl
        clear hb6 hown6 HP6 HQ6
        have e1 : ∀ W, (binOp .neq 31 (.agg #[.int .i64 (pgAt (rf ps) hh).g, .int .u64 (pgAt (rf ps) hh).p]) (.agg #[.int .i64 (pgAt (rf ps) hh).g, .int .u64 (pgAt (rf ps) hh).p])).run Try.prog W = .ok (.bool false) W := fun W => by rw [place_neq]; simp
        go_wp2_with fail
        refine (rlist_any _ _ _ _ H6.out.rf (by have := HL.out; omega)).mono ?_; rintro e w7 ⟨v7, rfl, hown7, hb7⟩
        obtain ⟨A7, c7, rfl⟩ := own_slice hown7
        rw [show ((UE ps.length).filter fun i => (rf ps i).isSome) = LU (rf ps) ps.length from rfl] at hown7
        rw [show ((UE ps.length).filter fun i => (rf ps i).isSome) = LU (rf ps) ps.length from rfl]
        have H7 := Lib.hid (H6.out.quiet hb7)
        have HO7 := Lib.hid (own_below HO6.out hb7)
        have HR7 := Lib.hid hown7
        clear hb7 hown7
        have hlu := LU_len (rf ps) ps.length
        go_wp2_with fail
        refine (ints_any _ _ _ _ _ _ _ _ _ _ _ (Reads.of_own HO7.out) (Reads.of_own HR7.out) (by have := HL.out; omega)).mono ?_; rintro e w8 ⟨rfl, hb8⟩
        rw [show decide (LU (rf ps) ps.length = LU (rf ps) ps.length) = true from by simp]
        have H8 := Lib.hid (H7.out.quiet hb8)
        have HO8 := Lib.hid (own_below HO7.out hb8)
        clear hb8 p0 p1 q0 q1 e1
        go_wp2_with fail
        obtain ⟨wo, rfl⟩ : ∃ wo : World, wo = wr := ⟨_, rfl⟩
        obtain ⟨n, hn⟩ : ∃ n, (LU (rf ps) ps.length).length = n := ⟨_, rfl⟩
        rw [hn] at HO8 hlu
        rw [hn]
        have hnb : (n : Int) ≤ 1000 := by have := HL.out; omega
        clear hn
        go_loopw [24] (RelZ w (w.heap.size + 1) w.heap.size w1.heap.size (w1.heap.size + 1) (t + 1) ps w5.heap.size A6 n c6) (fun i _ => n - (intOf i).toNat)
        case atStart => exact ⟨0, _, rfl, Nat.zero_le _, H8.out, ownsRow_mono HO8.out (by simp)⟩
        case round =>
          obtain ⟨q, zs, rfl, hq, hps, hown⟩ := hrel
          have HT := Lib.hid hps
          have HO := Lib.hid hown
          clear hps hown
          by_cases hqn : q < n
          · obtain ⟨gs, cap, hs, hgs, _⟩ := HO.out.form (by omega)
            injection hs with hs1 hs2 hs3
            subst hs1 hs3
            have hz : ∃ z, zs[q]? = some z := ⟨_, List.getElem?_eq_getElem (by have := HO.out.1; rw [List.length_map] at this; omega)⟩
            obtain ⟨z, hz⟩ := hz
            have cz := (HO.out.cellAt q (by omega)).trans (show _ = some (.int .i64 z) from by rw [List.getElem?_map, hz]; rfl)
            have hfz := HO.out.frozenAt q
            have hst := (HO.out.stored q (.int .i64 0)).1
            rw [show (zs.map (Value.int .i64)).set q (.int .i64 0) = (zs.set q 0).map (Value.int .i64) from by rw [List.map_set]] at hst
            have hPS := HT.out.sown HO.out (p := ⟨gs, q, none⟩) rfl (by omega) (.int .i64 0)
            have HST := Lib.hid hst
            have HPS := Lib.hid hPS
            clear hst hPS hz hgs
            go_wp2
            exact ⟨⟨q + 1, _, by go_num, hqn, HPS.out, HST.out⟩, by simp only [intOf]; omega⟩
          · obtain rfl : q = n := by omega
            go_wp2
            exact ⟨⟨t + 1, ps, by go_num, by have := HL.out; omega, by omega, HT.out⟩, by simp only [intOf]; omega⟩
    · have hlt' : m ≤ t ∨ (t < m ∧ 100 ≤ t) := by omega
      clear hlt
      rcases hlt' with h | ⟨h1, h2⟩
      · go_wp2_with fail
        refine (told_any _).mono ?_; rintro e w9 ⟨rfl, hb9⟩
        go_wp2
        go_ret
        exact ⟨rfl, HS0.out.be.trans (hb9.mono HS0.out.be.size)⟩
      · go_wp2_with fail
        refine (told_any _).mono ?_; rintro e w9 ⟨rfl, hb9⟩
        go_wp2
        go_ret
        exact ⟨rfl, HS0.out.be.trans (hb9.mono HS0.out.be.size)⟩
end Go.Proofs.Ytephgikeofkblaa
