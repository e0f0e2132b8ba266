/- The walk of the statement IndexPlays: it returns true. -/
import Derived.Test.YtkpngkdkkcadfaaIrk
import Derived.Test.YtkpngkdkkcadfaaMask
import Derived.Deep.DeepCutAuto
import Derived.Deep.CutBlock
namespace Go.Proofs.Ytkpngkdkkcadfaa
open Go.RowKit Mk

theorem kget_no {w : World} {W cm cx : Nat} {G : Int → Nat → Nat} {S : Ki → Option Cx} {B : Nat → Prop} (h : Bk w W cm cx G S B) (k : Int) (hk : (Lit.int .i64 k).wf = true) (h0 : ¬ (0 ≤ k ∧ k < 12)) : Calls Try.prog 9 #[.pointer (some ⟨cm, 0, none⟩), .int .i64 k] w fun e w' => e = .returned (.tuple #[.slice none 0 0, .int .i64 2]) ∧ Below w.heap.size w w' :=
  (kget h k hk).mono fun e w' hp => by
    obtain ⟨h1, ⟨h2, h3, _⟩ | ⟨_, h2⟩⟩ := hp
    · exact absurd ⟨h2, h3⟩ h0
    · exact ⟨h2, h1⟩
theorem alike_small {S : Ki → Option Cx} {ls : List (List Int)} (hd : D12 S) (h : AlikeOf S ls) : ls.length ≤ 12 ∧ ∀ l ∈ ls, l.length ≤ 12 := by
  have hr : ∀ l ∈ ls, ∀ x ∈ l, 0 ≤ x ∧ x < 12 := fun l hl x hx => by
    obtain ⟨⟨z, hz⟩, _⟩ := (h.2 l).1 hl
    obtain ⟨hw, e⟩ := (hz.2 x).1 hx
    exact hd _ _ e
  refine ⟨?_, fun l hl => ?_⟩
  · have h1 : (ls.map (·.headD 0)).Pairwise (· ≠ ·) := by
      rw [List.pairwise_map]
      exact h.1.imp fun {a b} hab e => by rw [e] at hab; omega
    have := int_len (m := (List.range 12).map fun i : Nat => (i : Int)) h1 fun k hk => by
      obtain ⟨l, hl, rfl⟩ := List.mem_map.1 hk
      have h2 := hr l hl _ (hd_mem (l := l) (by have := ((h.2 l).1 hl).2; omega))
      exact List.mem_map.2 ⟨(l.headD 0).toNat, List.mem_range.2 (by omega), by omega⟩
    simpa using this
  · obtain ⟨⟨z, hz⟩, _⟩ := (h.2 l).1 hl
    exact rise_len hz.1 (n := 12) fun x hx => by have := hr l hl x hx; omega
theorem tmod_bd7 (a : Int) : a.tmod 7 % 7 = 0 ∨ a.tmod 7 % 7 = 1 ∨ a.tmod 7 % 7 = 2 ∨ a.tmod 7 % 7 = 3 ∨ a.tmod 7 % 7 = 4 ∨ a.tmod 7 % 7 = 5 ∨ a.tmod 7 % 7 = 6 := by omega
set_option maxRecDepth 100000 in
set_option maxHeartbeats 8000000 in
theorem indexPlays_walk (A : Option Addr) (m c0 : Nat) (xs0 : List Value) (w : World) (hr : Reads w w.heap.size 4 A m xs0) (hx : CellsR opK xs0) :
    Calls Try.prog 4 #[.slice A m c0] w fun e w' => e = .returned (.bool true) ∧ Below w.heap.size w w' := by
  obtain ⟨O, hO⟩ := ops_fn hr.1 hx
  have HR := Lib.hid hr
  have HO := Lib.hid hO
  clear hr hx hO
  go_enter Try.func4, Try.ntmps4
  go_wp2_with fail
  refine (kmade w).mono ?_; rintro e w1 ⟨cm, cx, B1, rfl, h1, hb1⟩
  have HT := Lib.hid (show Tk w w1 cm cx G0 S0 B1 from ⟨h1, hb1⟩)
  clear h1 hb1
  go_wp2_with fail
  refine (lframes HT.out.bk).mono ?_; rintro e w2 ⟨vF, rfl, hF, hb2⟩
  obtain ⟨bF, cF, rfl⟩ := hF.form
  have HP := Lib.hid (show Tw w (w2.alloc (.cells #[.slice (some ⟨bF, 0, none⟩) 12 cF, .slice none 0 0] 43)) cm cx w2.heap.size G0 S0 B1 G0 [] (fun g => w1.heap.size ≤ g ∧ g < w2.heap.size) from by
    have hba := (Below.refl w2.heap.size w2).alloc (Nat.le_refl _) (.cells #[.slice (some ⟨bF, 0, none⟩) 12 cF, .slice none 0 0] 43)
    have hw1 := HT.out.be.size
    have hw2 := hb2.size
    refine ⟨(HT.out.fresh hb2).fresh hba, ⟨_, _, Blk.new _ _ _, World.ownsRow_nil _ _ _ _, fun g hg => (by cases hg), ?_, fun hg => by omega, fun g hg => ⟨by omega, by simp; omega⟩, by omega⟩, fun h => by have := (HT.out.bk.lt h).2; omega, fun g hg h => by have := (HT.out.bk.lt h).2; omega⟩
    obtain ⟨fs, a1, a2, a3⟩ := hF.below hba
    exact ⟨fs, ownsRow_mono a1 hw1, a2, fun k hk => by obtain ⟨u, b1, b2, b3⟩ := a3 k hk; exact ⟨u, b1, b2, ownsRow_mono b3 hw1⟩⟩)
  clear hF hb2
  go_wp2_with fail
  generalize w2.alloc (.cells #[.slice (some ⟨bF, 0, none⟩) 12 cF, .slice none 0 0] 43) = w3 at *
  generalize w2.heap.size = cr at *
  go_loopw [7] (PlR w cm cx cr) (fun v _ => 60 - cntI v)
  case atStart => exact ⟨0, _, _, _, _, _, rfl, Nat.zero_le _, HP.out, XSim.nil⟩
  case round =>
    clear HP HT
    obtain ⟨i, G, S, B, xs, N, rfl, hi, hP, hS⟩ := hrel
    have HP := Lib.hid hP
    have HS := Lib.hid hS
    clear hP hS
    by_cases hlt : i < m ∧ i < 60
    · obtain ⟨l1, l2⟩ := hlt
      have him2 : (i : Int) < (m : Int) := by omega
      obtain ⟨ad, rfl, hadb, c0, c1, c2, c3⟩ := op_cells (HR.out.below HP.out.tk.be) HO.out l1
      obtain ⟨kd, hkd⟩ : ∃ kd, (O i).kd = kd := ⟨_, rfl⟩
      obtain ⟨fr, hf⟩ : ∃ f, (O i).fr = f := ⟨_, rfl⟩
      obtain ⟨pl, hp⟩ : ∃ p, (O i).pl = p := ⟨_, rfl⟩
      obtain ⟨vv, hv⟩ : ∃ p, (O i).vv = p := ⟨_, rfl⟩
      have hwf := (O i).wf
      have hwv := (O i).wv
      rw [hkd] at c0
      rw [hf] at c1 hwf
      rw [hp] at c2
      rw [hv] at c3 hwv
      clear hkd hf hp hv hadb
      obtain ⟨kr, hkr⟩ : ∃ kr, kd.tmod 7 % 7 = kr := ⟨_, rfl⟩
      have hkk := tmod_bd7 kd
      have hkr' : (kd.tmod 7 + 7) % 7 = kr := by rw [Int.add_emod_right]; exact hkr
      rw [hkr] at hkk
      clear hkr
      have hb7 := tmod_bdn kd 7 (by decide)
      have hbo := (Below.refl wr.heap.size wr).alloc (Nat.le_refl _) (.cells #[.int .i64 kd, .int .i64 fr, .int .i64 pl, .int .u64 vv] 45)
      have HGF := Lib.hid (show Blk (wr.alloc (.cells #[.int .i64 kd, .int .i64 fr, .int .i64 pl, .int .u64 vv] 45)) wr.heap.size 45 #[.int .i64 kd, .int .i64 fr, .int .i64 pl, .int .u64 vv] ∧ Fo B cr wr.heap.size from ⟨Blk.new wr _ _, HP.out.fo (Nat.le_refl _)⟩)
      replace HP := Lib.hid (HP.out.fresh hbo)
      have HD := Lib.hid (show D12 S ∧ ∀ k j, G k j < 256 from ⟨HP.out.tk.bk.dom, HP.out.tk.bk.bytes⟩)
      clear hbo
      go_upto_block 2 with (fail)
      rw [hkr']
      generalize wr.alloc (.cells #[.int .i64 kd, .int .i64 fr, .int .i64 pl, .int .u64 vv] 45) = w3 at *
      generalize wr.heap.size = gb at *
      clear c0 c1 c2 c3 him2
      have e1 := (HGF.out.1.cell 1).trans rfl
      go_cut [9, 10] (PlC w cm cx cr gb #[.int .i64 kd, .int .i64 fr, .int .i64 pl, .int .u64 vv])
      case first =>
        rcases hkk with rfl | rfl | rfl | rfl | rfl | rfl | rfl
        · as_aux_lemma =>
            obtain ⟨x, hx⟩ : ∃ x, addE S ⟨fr, hwf⟩ = x := ⟨_, rfl⟩
            have HX := Lib.hid hx
            clear hx
            go_upto_region 18 with fail
            refine wp_region_held_drew (S := (fun w' => w'.cell? ⟨gb, 1, none⟩ = some (.int .i64 fr))) (by kernel_rfl) ?_ (fun hHeld => ?_)
            · exact e1
            clear e1
            replace HP := Lib.hid (show Tw w w3.drew cm cx cr G S B G xs N from HP.out.drewN 1)
            replace HGF := Lib.hid (show Blk w3.drew gb 45 #[.int .i64 kd, .int .i64 fr, .int .i64 pl, .int .u64 vv] ∧ Fo B cr gb from HGF.out)
            generalize w3.drew = wc at *
            ((refine takeY 0 (v := ?_) rfl (by kernel_rfl) (by kernel_rfl) (by kernel_rfl) (fun _ _ _ h => h) (by rfl) (by assumption) ?_ ?_; rotate_left; · (intro w hSw; (try dsimp only at hSw); go_simp; (first | done | with_reducible rfl))))
            (try simp only [Act.put, List.setIfInBounds_toArray, List.set_cons_zero, List.set_cons_succ])
            ((refine takeY 1 (v := ?_) rfl (by kernel_rfl) (by kernel_rfl) (by kernel_rfl) (fun _ _ _ h => h) (by rfl) (by assumption) ?_ ?_; rotate_left; · (intro w hSw; (try dsimp only at hSw); go_simp; (first | done | with_reducible rfl))))
            (try simp only [Act.put, List.setIfInBounds_toArray, List.set_cons_zero, List.set_cons_succ])
            ((refine takeY 2 (v := ?_) rfl (by kernel_rfl) (by kernel_rfl) (by kernel_rfl) (fun _ _ _ h => h) (by rfl) (by assumption) ?_ ?_; rotate_left; · (intro w hSw; (try dsimp only at hSw); go_simp; (first | done | with_reducible rfl))))
            (try simp only [Act.put, List.setIfInBounds_toArray, List.set_cons_zero, List.set_cons_succ])
            ((refine takeY 4 (v := ?_) rfl (by kernel_rfl) (by kernel_rfl) (by kernel_rfl) (fun _ _ _ h => h) (by rfl) (by assumption) ?_ ?_; rotate_left; · (intro w hSw; (try dsimp only at hSw); go_simp; (first | done | with_reducible rfl))))
            (try simp only [Act.put, List.setIfInBounds_toArray, List.set_cons_zero, List.set_cons_succ])
            ((refine takeY 5 (v := ?_) rfl (by kernel_rfl) (by kernel_rfl) (by kernel_rfl) (fun _ _ _ h => h) (by rfl) (by assumption) ?_ ?_; rotate_left; · (intro w hSw; (try dsimp only at hSw); go_simp; (first | done | with_reducible rfl))))
            (try simp only [Act.put, List.setIfInBounds_toArray, List.set_cons_zero, List.set_cons_succ])
            ((refine takeY 6 (v := ?_) rfl (by kernel_rfl) (by kernel_rfl) (by kernel_rfl) (fun _ _ _ h => h) (by rfl) (by assumption) ?_ ?_; rotate_left; · (intro w hSw; (try dsimp only at hSw); go_simp; (first | done | with_reducible rfl))))
            (try simp only [Act.put, List.setIfInBounds_toArray, List.set_cons_zero, List.set_cons_succ])
            refine stepH 3 rfl (by kernel_rfl) (by rfl) (fun K hK => ?_)
            go_simp
            refine (kadd1 HP.out.tk.bk fr hwf).mono ?_; rintro e wn ⟨rfl, hto⟩
            rw [HX.out]
            obtain ⟨Bn, hP2, hk2⟩ := HP.out.toB hto
            replace HGF := Lib.hid (hk2 _ _ _ HGF.out.1 HGF.out.2)
            replace HP := Lib.hid hP2
            clear hto hP2 hk2
            (refine hK.out _ _ ?_ (fun hHeld => ?_))
            · exact (HGF.out.1.cell 1).trans rfl
            clear hK K
            obtain ⟨wc, rfl⟩ : ∃ x : World, x = wn := ⟨_, rfl⟩
            refine stepH 7 rfl (by kernel_rfl) (by rfl) (fun K hK => ?_)
            go_simp
            obtain ⟨vF9, v9, hrx⟩ := HP.out.rx
            refine (rxadd1 hrx HS.out HD.out.1 HD.out.2 fr hwf).mono ?_; rintro e wn ⟨rfl, ys, hsy, hr2⟩
            rw [HX.out]
            obtain ⟨Nn, hP2, hk2⟩ := HP.out.toR hr2
            replace HGF := Lib.hid (hk2 _ _ _ HGF.out.1 HGF.out.2)
            replace HP := Lib.hid hP2
            have HS2 := Lib.hid hsy
            clear hr2 hP2 hk2 hrx hsy
            (refine hK.out _ _ ?_ (fun hHeld => ?_))
            · exact (HGF.out.1.cell 1).trans rfl
            clear hK K
            obtain ⟨wc, rfl⟩ : ∃ x : World, x = wn := ⟨_, rfl⟩
            ((refine takeY 8 (v := ?_) rfl (by kernel_rfl) (by kernel_rfl) (by kernel_rfl) (fun _ _ _ h => h) (by rfl) (by assumption) ?_ ?_; rotate_left; · (intro w hSw; (try dsimp only at hSw); go_simp; (first | done | with_reducible rfl))))
            (try simp only [Act.put, List.setIfInBounds_toArray, List.set_cons_zero, List.set_cons_succ])
            ((refine takeY 9 (v := ?_) rfl (by kernel_rfl) (by kernel_rfl) (by kernel_rfl) (fun _ _ _ h => h) (by rfl) (by assumption) ?_ ?_; rotate_left; · (intro w hSw; (try dsimp only at hSw); go_simp; (first | done | with_reducible rfl))))
            (try simp only [Act.put, List.setIfInBounds_toArray, List.set_cons_zero, List.set_cons_succ])
            refine wpAnyH_done (by kernel_rfl) ?_ _
            clear hHeld
            go_wp2
            go_meet
            exact ⟨x, G, _, _, _, _, rfl, rfl, HP.out, HS2.out, HGF.out.1, HGF.out.2⟩
        · as_aux_lemma =>
            obtain ⟨x, hx⟩ : ∃ x, addE S ⟨fr, hwf⟩ = x := ⟨_, rfl⟩
            have HX := Lib.hid hx
            clear hx
            go_upto_region 18 with fail
            refine wp_region_held_drew (S := (fun w' => w'.cell? ⟨gb, 1, none⟩ = some (.int .i64 fr))) (by kernel_rfl) ?_ (fun hHeld => ?_)
            · exact e1
            clear e1
            replace HP := Lib.hid (show Tw w w3.drew cm cx cr G S B G xs N from HP.out.drewN 1)
            replace HGF := Lib.hid (show Blk w3.drew gb 45 #[.int .i64 kd, .int .i64 fr, .int .i64 pl, .int .u64 vv] ∧ Fo B cr gb from HGF.out)
            generalize w3.drew = wc at *
            ((refine takeY 0 (v := ?_) rfl (by kernel_rfl) (by kernel_rfl) (by kernel_rfl) (fun _ _ _ h => h) (by rfl) (by assumption) ?_ ?_; rotate_left; · (intro w hSw; (try dsimp only at hSw); go_simp; (first | done | with_reducible rfl))))
            (try simp only [Act.put, List.setIfInBounds_toArray, List.set_cons_zero, List.set_cons_succ])
            ((refine takeY 1 (v := ?_) rfl (by kernel_rfl) (by kernel_rfl) (by kernel_rfl) (fun _ _ _ h => h) (by rfl) (by assumption) ?_ ?_; rotate_left; · (intro w hSw; (try dsimp only at hSw); go_simp; (first | done | with_reducible rfl))))
            (try simp only [Act.put, List.setIfInBounds_toArray, List.set_cons_zero, List.set_cons_succ])
            ((refine takeY 2 (v := ?_) rfl (by kernel_rfl) (by kernel_rfl) (by kernel_rfl) (fun _ _ _ h => h) (by rfl) (by assumption) ?_ ?_; rotate_left; · (intro w hSw; (try dsimp only at hSw); go_simp; (first | done | with_reducible rfl))))
            (try simp only [Act.put, List.setIfInBounds_toArray, List.set_cons_zero, List.set_cons_succ])
            ((refine takeY 4 (v := ?_) rfl (by kernel_rfl) (by kernel_rfl) (by kernel_rfl) (fun _ _ _ h => h) (by rfl) (by assumption) ?_ ?_; rotate_left; · (intro w hSw; (try dsimp only at hSw); go_simp; (first | done | with_reducible rfl))))
            (try simp only [Act.put, List.setIfInBounds_toArray, List.set_cons_zero, List.set_cons_succ])
            ((refine takeY 5 (v := ?_) rfl (by kernel_rfl) (by kernel_rfl) (by kernel_rfl) (fun _ _ _ h => h) (by rfl) (by assumption) ?_ ?_; rotate_left; · (intro w hSw; (try dsimp only at hSw); go_simp; (first | done | with_reducible rfl))))
            (try simp only [Act.put, List.setIfInBounds_toArray, List.set_cons_zero, List.set_cons_succ])
            ((refine takeY 6 (v := ?_) rfl (by kernel_rfl) (by kernel_rfl) (by kernel_rfl) (fun _ _ _ h => h) (by rfl) (by assumption) ?_ ?_; rotate_left; · (intro w hSw; (try dsimp only at hSw); go_simp; (first | done | with_reducible rfl))))
            (try simp only [Act.put, List.setIfInBounds_toArray, List.set_cons_zero, List.set_cons_succ])
            refine stepH 3 rfl (by kernel_rfl) (by rfl) (fun K hK => ?_)
            go_simp
            refine (kadd1 HP.out.tk.bk fr hwf).mono ?_; rintro e wn ⟨rfl, hto⟩
            rw [HX.out]
            obtain ⟨Bn, hP2, hk2⟩ := HP.out.toB hto
            replace HGF := Lib.hid (hk2 _ _ _ HGF.out.1 HGF.out.2)
            replace HP := Lib.hid hP2
            clear hto hP2 hk2
            (refine hK.out _ _ ?_ (fun hHeld => ?_))
            · exact (HGF.out.1.cell 1).trans rfl
            clear hK K
            obtain ⟨wc, rfl⟩ : ∃ x : World, x = wn := ⟨_, rfl⟩
            refine stepH 7 rfl (by kernel_rfl) (by rfl) (fun K hK => ?_)
            go_simp
            obtain ⟨vF9, v9, hrx⟩ := HP.out.rx
            refine (rxadd1 hrx HS.out HD.out.1 HD.out.2 fr hwf).mono ?_; rintro e wn ⟨rfl, ys, hsy, hr2⟩
            rw [HX.out]
            obtain ⟨Nn, hP2, hk2⟩ := HP.out.toR hr2
            replace HGF := Lib.hid (hk2 _ _ _ HGF.out.1 HGF.out.2)
            replace HP := Lib.hid hP2
            have HS2 := Lib.hid hsy
            clear hr2 hP2 hk2 hrx hsy
            (refine hK.out _ _ ?_ (fun hHeld => ?_))
            · exact (HGF.out.1.cell 1).trans rfl
            clear hK K
            obtain ⟨wc, rfl⟩ : ∃ x : World, x = wn := ⟨_, rfl⟩
            ((refine takeY 8 (v := ?_) rfl (by kernel_rfl) (by kernel_rfl) (by kernel_rfl) (fun _ _ _ h => h) (by rfl) (by assumption) ?_ ?_; rotate_left; · (intro w hSw; (try dsimp only at hSw); go_simp; (first | done | with_reducible rfl))))
            (try simp only [Act.put, List.setIfInBounds_toArray, List.set_cons_zero, List.set_cons_succ])
            ((refine takeY 9 (v := ?_) rfl (by kernel_rfl) (by kernel_rfl) (by kernel_rfl) (fun _ _ _ h => h) (by rfl) (by assumption) ?_ ?_; rotate_left; · (intro w hSw; (try dsimp only at hSw); go_simp; (first | done | with_reducible rfl))))
            (try simp only [Act.put, List.setIfInBounds_toArray, List.set_cons_zero, List.set_cons_succ])
            refine wpAnyH_done (by kernel_rfl) ?_ _
            clear hHeld
            go_wp2
            go_meet
            exact ⟨x, G, _, _, _, _, rfl, rfl, HP.out, HS2.out, HGF.out.1, HGF.out.2⟩
        · as_aux_lemma =>
            obtain ⟨x, hx⟩ : ∃ x, dropE S ⟨fr, hwf⟩ = x := ⟨_, rfl⟩
            have HX := Lib.hid hx
            clear hx
            go_upto_region 20 with fail
            refine wp_region_held_drew (S := (fun w' => w'.cell? ⟨gb, 1, none⟩ = some (.int .i64 fr))) (by kernel_rfl) ?_ (fun hHeld => ?_)
            · exact e1
            clear e1
            replace HP := Lib.hid (show Tw w w3.drew cm cx cr G S B G xs N from HP.out.drewN 1)
            replace HGF := Lib.hid (show Blk w3.drew gb 45 #[.int .i64 kd, .int .i64 fr, .int .i64 pl, .int .u64 vv] ∧ Fo B cr gb from HGF.out)
            generalize w3.drew = wc at *
            ((refine takeY 0 (v := ?_) rfl (by kernel_rfl) (by kernel_rfl) (by kernel_rfl) (fun _ _ _ h => h) (by rfl) (by assumption) ?_ ?_; rotate_left; · (intro w hSw; (try dsimp only at hSw); go_simp; (first | done | with_reducible rfl))))
            (try simp only [Act.put, List.setIfInBounds_toArray, List.set_cons_zero, List.set_cons_succ])
            ((refine takeY 1 (v := ?_) rfl (by kernel_rfl) (by kernel_rfl) (by kernel_rfl) (fun _ _ _ h => h) (by rfl) (by assumption) ?_ ?_; rotate_left; · (intro w hSw; (try dsimp only at hSw); go_simp; (first | done | with_reducible rfl))))
            (try simp only [Act.put, List.setIfInBounds_toArray, List.set_cons_zero, List.set_cons_succ])
            ((refine takeY 2 (v := ?_) rfl (by kernel_rfl) (by kernel_rfl) (by kernel_rfl) (fun _ _ _ h => h) (by rfl) (by assumption) ?_ ?_; rotate_left; · (intro w hSw; (try dsimp only at hSw); go_simp; (first | done | with_reducible rfl))))
            (try simp only [Act.put, List.setIfInBounds_toArray, List.set_cons_zero, List.set_cons_succ])
            ((refine takeY 4 (v := ?_) rfl (by kernel_rfl) (by kernel_rfl) (by kernel_rfl) (fun _ _ _ h => h) (by rfl) (by assumption) ?_ ?_; rotate_left; · (intro w hSw; (try dsimp only at hSw); go_simp; (first | done | with_reducible rfl))))
            (try simp only [Act.put, List.setIfInBounds_toArray, List.set_cons_zero, List.set_cons_succ])
            ((refine takeY 5 (v := ?_) rfl (by kernel_rfl) (by kernel_rfl) (by kernel_rfl) (fun _ _ _ h => h) (by rfl) (by assumption) ?_ ?_; rotate_left; · (intro w hSw; (try dsimp only at hSw); go_simp; (first | done | with_reducible rfl))))
            (try simp only [Act.put, List.setIfInBounds_toArray, List.set_cons_zero, List.set_cons_succ])
            ((refine takeY 6 (v := ?_) rfl (by kernel_rfl) (by kernel_rfl) (by kernel_rfl) (fun _ _ _ h => h) (by rfl) (by assumption) ?_ ?_; rotate_left; · (intro w hSw; (try dsimp only at hSw); go_simp; (first | done | with_reducible rfl))))
            (try simp only [Act.put, List.setIfInBounds_toArray, List.set_cons_zero, List.set_cons_succ])
            refine stepH 3 rfl (by kernel_rfl) (by rfl) (fun K hK => ?_)
            go_simp
            refine (kdrop1 HP.out.tk.bk fr hwf).mono ?_; rintro e wn ⟨rfl, hto⟩
            rw [HX.out]
            obtain ⟨Bn, hP2, hk2⟩ := HP.out.toB hto
            replace HGF := Lib.hid (hk2 _ _ _ HGF.out.1 HGF.out.2)
            replace HP := Lib.hid hP2
            clear hto hP2 hk2
            (refine hK.out _ _ ?_ (fun hHeld => ?_))
            · exact (HGF.out.1.cell 1).trans rfl
            clear hK K
            obtain ⟨wc, rfl⟩ : ∃ x : World, x = wn := ⟨_, rfl⟩
            refine stepH 7 rfl (by kernel_rfl) (by rfl) (fun K hK => ?_)
            go_simp
            obtain ⟨vF9, v9, hrx⟩ := HP.out.rx
            refine (rxdrop1 hrx HS.out HD.out.1 fr hwf).mono ?_; rintro e wn ⟨rfl, ys, hsy, hr2⟩
            rw [HX.out]
            obtain ⟨Nn, hP2, hk2⟩ := HP.out.toR hr2
            replace HGF := Lib.hid (hk2 _ _ _ HGF.out.1 HGF.out.2)
            replace HP := Lib.hid hP2
            have HS2 := Lib.hid hsy
            clear hr2 hP2 hk2 hrx hsy
            (refine hK.out _ _ ?_ (fun hHeld => ?_))
            · exact (HGF.out.1.cell 1).trans rfl
            clear hK K
            obtain ⟨wc, rfl⟩ : ∃ x : World, x = wn := ⟨_, rfl⟩
            ((refine takeY 8 (v := ?_) rfl (by kernel_rfl) (by kernel_rfl) (by kernel_rfl) (fun _ _ _ h => h) (by rfl) (by assumption) ?_ ?_; rotate_left; · (intro w hSw; (try dsimp only at hSw); go_simp; (first | done | with_reducible rfl))))
            (try simp only [Act.put, List.setIfInBounds_toArray, List.set_cons_zero, List.set_cons_succ])
            ((refine takeY 9 (v := ?_) rfl (by kernel_rfl) (by kernel_rfl) (by kernel_rfl) (fun _ _ _ h => h) (by rfl) (by assumption) ?_ ?_; rotate_left; · (intro w hSw; (try dsimp only at hSw); go_simp; (first | done | with_reducible rfl))))
            (try simp only [Act.put, List.setIfInBounds_toArray, List.set_cons_zero, List.set_cons_succ])
            refine wpAnyH_done (by kernel_rfl) ?_ _
            clear hHeld
            go_wp2
            go_meet
            exact ⟨x, G, _, _, _, _, rfl, rfl, HP.out, HS2.out, HGF.out.1, HGF.out.2⟩
        · as_aux_lemma =>
            have e2 := (HGF.out.1.cell 2).trans rfl
            have e3 := (HGF.out.1.cell 3).trans rfl
            obtain ⟨p, hp, hp16⟩ : ∃ k : Nat, bits .and .i64 fr 15 = (k : Int) ∧ k < 16 := ⟨(fr % 16).toNat, by rw [show (15 : Int) = 2 ^ 4 - 1 by decide, mask64 fr 4 (by decide)]; omega, by omega⟩
            obtain ⟨q, hq, hq8⟩ : ∃ k : Nat, bits .and .i64 pl 7 = (k : Int) ∧ k < 8 := ⟨(pl % 8).toNat, by rw [show (7 : Int) = 2 ^ 3 - 1 by decide, mask64 pl 3 (by decide)]; omega, by omega⟩
            obtain ⟨y, hy⟩ : ∃ y : Nat, (p : Int) * 4096 = (y : Int) := ⟨p * 4096, by omega⟩
            obtain ⟨t, ht⟩ : ∃ y : Nat, (8 : Int) * (q : Int) = (y : Int) := ⟨8 * q, by omega⟩
            obtain ⟨x, hx⟩ : ∃ x : Nat, (y : Int) + (t : Int) = (x : Int) := ⟨y + t, by omega⟩
            have HX := Lib.hid (show x = p * 4096 + 8 * q ∧ p < 16 ∧ q < 8 from by omega)
            have bd : y ≤ 100000 ∧ t ≤ 100 ∧ x ≤ 200000 := by omega
            obtain ⟨nv, hnv⟩ : ∃ n : Nat, vv = (n : Int) := ⟨vv.toNat, by
              simp only [Lit.wf, IntKind.min, IntKind.max, Bool.and_eq_true] at hwv
              have := hwv.1
              simp [IntKind.signed] at this
              omega⟩
            have HNV := Lib.hid hnv
            rw [hnv] at e3
            clear hnv
            go_wp2_with fail
            refine (kwrite1 HP.out.tk.bk (fr := p) (a := 8 * q) (x := x) (by omega) (by have := HX.out; omega) HX.out.1 (by have := HX.out; omega) nv).mono ?_; rintro e w4 ⟨z, G', rfl, hto⟩
            obtain ⟨Bn, hP2, hk2⟩ := HP.out.toB hto
            replace HGF := Lib.hid (hk2 _ _ _ HGF.out.1 HGF.out.2)
            replace HP := Lib.hid hP2
            clear hto hP2 hk2 e1 e2 e3
            go_wp2_with fail
            refine (lframes HP.out.tk.bk).mono ?_; rintro e w5 ⟨vF', rfl, hF, hb⟩
            obtain ⟨bF', cF', rfl⟩ := hF.form
            obtain ⟨vF9, v9, hrx⟩ := HP.out.rx
            have HTO := Lib.hid (hrx.setF hb hF HP.out.tk.be.size)
            have k0 := (hrx.below hb).c0
            have k1 := (hrx.below hb).blk.frozen 0
            clear hF hb hrx
            go_wp2
            go_meet
            obtain ⟨Nn, hP2, hk2⟩ := HP.out.toR HTO.out
            have hk3 := hk2 _ _ _ HGF.out.1 HGF.out.2
            exact ⟨0, G', _, _, _, _, rfl, rfl, hP2, HS.out, hk3.1, hk3.2⟩
        · as_aux_lemma =>
            have e2 := (HGF.out.1.cell 2).trans rfl
            have e3 := (HGF.out.1.cell 3).trans rfl
            obtain ⟨p, hp, hp16⟩ : ∃ k : Nat, bits .and .i64 fr 15 = (k : Int) ∧ k < 16 := ⟨(fr % 16).toNat, by rw [show (15 : Int) = 2 ^ 4 - 1 by decide, mask64 fr 4 (by decide)]; omega, by omega⟩
            obtain ⟨q, hq, hq8⟩ : ∃ k : Nat, bits .and .i64 pl 7 = (k : Int) ∧ k < 8 := ⟨(pl % 8).toNat, by rw [show (7 : Int) = 2 ^ 3 - 1 by decide, mask64 pl 3 (by decide)]; omega, by omega⟩
            obtain ⟨y, hy⟩ : ∃ y : Nat, (p : Int) * 4096 = (y : Int) := ⟨p * 4096, by omega⟩
            obtain ⟨t, ht⟩ : ∃ y : Nat, (8 : Int) * (q : Int) = (y : Int) := ⟨8 * q, by omega⟩
            obtain ⟨x, hx⟩ : ∃ x : Nat, (y : Int) + (t : Int) = (x : Int) := ⟨y + t, by omega⟩
            have HX := Lib.hid (show x = p * 4096 + 8 * q ∧ p < 16 ∧ q < 8 from by omega)
            have bd : y ≤ 100000 ∧ t ≤ 100 ∧ x ≤ 200000 := by omega
            obtain ⟨nv, hnv⟩ : ∃ n : Nat, vv = (n : Int) := ⟨vv.toNat, by
              simp only [Lit.wf, IntKind.min, IntKind.max, Bool.and_eq_true] at hwv
              have := hwv.1
              simp [IntKind.signed] at this
              omega⟩
            have HNV := Lib.hid hnv
            rw [hnv] at e3
            clear hnv
            go_wp2_with fail
            refine (kwrite1 HP.out.tk.bk (fr := p) (a := 8 * q) (x := x) (by omega) (by have := HX.out; omega) HX.out.1 (by have := HX.out; omega) nv).mono ?_; rintro e w4 ⟨z, G', rfl, hto⟩
            obtain ⟨Bn, hP2, hk2⟩ := HP.out.toB hto
            replace HGF := Lib.hid (hk2 _ _ _ HGF.out.1 HGF.out.2)
            replace HP := Lib.hid hP2
            clear hto hP2 hk2 e1 e2 e3
            go_wp2_with fail
            refine (lframes HP.out.tk.bk).mono ?_; rintro e w5 ⟨vF', rfl, hF, hb⟩
            obtain ⟨bF', cF', rfl⟩ := hF.form
            obtain ⟨vF9, v9, hrx⟩ := HP.out.rx
            have HTO := Lib.hid (hrx.setF hb hF HP.out.tk.be.size)
            have k0 := (hrx.below hb).c0
            have k1 := (hrx.below hb).blk.frozen 0
            clear hF hb hrx
            go_wp2
            go_meet
            obtain ⟨Nn, hP2, hk2⟩ := HP.out.toR HTO.out
            have hk3 := hk2 _ _ _ HGF.out.1 HGF.out.2
            exact ⟨0, G', _, _, _, _, rfl, rfl, hP2, HS.out, hk3.1, hk3.2⟩
        · as_aux_lemma =>
            by_cases h12 : 0 ≤ fr ∧ fr < 12
            · have H12 := Lib.hid h12
              clear h12
              go_wp2_with fail
              refine (kget_ok HP.out.tk.bk fr hwf H12.out).mono ?_; rintro e w4 ⟨bA, cA, rfl, hp, _, _, hb⟩
              have HA := Lib.hid hp.1
              clear hp
              replace HGF := Lib.hid (show Blk _ gb 45 #[.int .i64 kd, .int .i64 fr, .int .i64 pl, .int .u64 vv] ∧ Fo B cr gb from ⟨HGF.out.1.below hb HGF.out.1.lt, HGF.out.2⟩)
              replace HP := Lib.hid (HP.out.fresh hb)
              clear hb e1
              have e1 := (HGF.out.1.cell 1).trans rfl
              go_wp2_with fail
              refine (kfind1 HP.out.tk.bk HA.out (fun j => HD.out.2 fr j) fr).mono ?_; rintro e w5 ⟨x, r, rfl, hf, hb⟩
              replace HA := Lib.hid (HA.out.below hb)
              have HFI := Lib.hid hf
              clear hf
              replace HGF := Lib.hid (show Blk _ gb 45 #[.int .i64 kd, .int .i64 fr, .int .i64 pl, .int .u64 vv] ∧ Fo B cr gb from ⟨HGF.out.1.below hb HGF.out.1.lt, HGF.out.2⟩)
              replace HP := Lib.hid (HP.out.fresh hb)
              clear hb e1
              have e1 := (HGF.out.1.cell 1).trans rfl
              go_wp2_with fail
              obtain ⟨vF9, v9, hrx⟩ := HP.out.rx
              refine (rxfind hrx HS.out HD.out.1 HD.out.2 HA.out (fun j => HD.out.2 fr j) fr).mono ?_; rintro e _ ⟨x', r', rfl, hf, rfl⟩
              obtain ⟨rfl, rfl⟩ := hf.unique HFI.out
              clear hf hrx HA HFI
              have q1 : (x' != x') = false := by simp
              cases r' <;> (go_wp2; go_meet; exact ⟨0, G, _, _, _, _, rfl, rfl, HP.out, HS.out, HGF.out.1, HGF.out.2⟩)
            · have H12 := Lib.hid h12
              clear h12
              go_wp2_with fail
              refine (kget_no HP.out.tk.bk fr hwf H12.out).mono ?_; rintro e w4 ⟨rfl, hb⟩
              replace HGF := Lib.hid (show Blk _ gb 45 #[.int .i64 kd, .int .i64 fr, .int .i64 pl, .int .u64 vv] ∧ Fo B cr gb from ⟨HGF.out.1.below hb HGF.out.1.lt, HGF.out.2⟩)
              replace HP := Lib.hid (HP.out.fresh hb)
              clear hb e1
              have e1 := (HGF.out.1.cell 1).trans rfl
              go_wp2_with fail
              refine (kfind_nil w4 cx fr).mono ?_; rintro e _ ⟨rfl, rfl⟩
              go_wp2_with fail
              obtain ⟨vF9, v9, hrx⟩ := HP.out.rx
              refine (rxfind0 hrx fr).mono ?_; rintro e _ ⟨rfl, rfl⟩
              clear hrx
              go_wp2
              go_meet
              exact ⟨0, G, _, _, _, _, rfl, rfl, HP.out, HS.out, HGF.out.1, HGF.out.2⟩
        · as_aux_lemma =>
            have e2 := (HGF.out.1.cell 2).trans rfl
            have e3 := (HGF.out.1.cell 3).trans rfl
            obtain ⟨nv, hnv⟩ : ∃ n : Nat, vv = (n : Int) := ⟨vv.toNat, by
              simp only [Lit.wf, IntKind.min, IntKind.max, Bool.and_eq_true] at hwv
              have := hwv.1
              simp [IntKind.signed] at this
              omega⟩
            have HNV := Lib.hid hnv
            rw [hnv] at e3
            obtain ⟨n8, hn8, hn8'⟩ : ∃ n : Nat, IntKind.u8.wrap (nv : Int) = (n : Int) ∧ n < 256 := ⟨nv % 256, by unfold IntKind.wrap; simp [IntKind.bits, IntKind.signed], by omega⟩
            have H8 := Lib.hid hn8'
            clear hnv hn8'
            have hba := (Below.refl w3.heap.size w3).alloc (Nat.le_refl _) (.cells #[.int .i64 pl] 3)
            have e3' := ((HGF.out.1.below hba HGF.out.1.lt).cell 3).trans rfl
            rw [HNV.out] at e3'
            have hb := hba.alloc (show w3.heap.size ≤ _ from by simp) (.cells #[.int .u8 n8] 5)
            have HB := Lib.hid hb
            clear hba hb
            go_wp2_with fail
            have hb := HB.out
            replace HGF := Lib.hid (show Blk _ gb 45 #[.int .i64 kd, .int .i64 fr, .int .i64 pl, .int .u64 vv] ∧ Fo B cr gb from ⟨HGF.out.1.below hb HGF.out.1.lt, HGF.out.2⟩)
            replace HP := Lib.hid (HP.out.fresh hb)
            have HR1 := Lib.hid (show Reads ((w3.alloc (.cells #[.int .i64 pl] 3)).alloc (.cells #[.int .u8 n8] 5)) ((w3.alloc (.cells #[.int .i64 pl] 3)).alloc (.cells #[.int .u8 n8] 5)).heap.size 1 (some ⟨w3.heap.size, 0, none⟩) 1 [.int .i64 pl] from ((reads_one1 w3 (.int .i64 pl) 3).alloc (Nat.le_refl _) (.cells #[.int .u8 n8] 5)).more (by simp))
            have HR2 := Lib.hid (show Reads ((w3.alloc (.cells #[.int .i64 pl] 3)).alloc (.cells #[.int .u8 n8] 5)) ((w3.alloc (.cells #[.int .i64 pl] 3)).alloc (.cells #[.int .u8 n8] 5)).heap.size 1 (some ⟨w3.heap.size + 1, 0, none⟩) 1 [.int .u8 n8] from by have := reads_one1 (w3.alloc (.cells #[.int .i64 pl] 3)) (.int .u8 n8) 5; simpa using this)
            clear hb HB e1 e2 e3 e3'
            generalize (w3.alloc (.cells #[.int .i64 pl] 3)).alloc (.cells #[.int .u8 n8] 5) = wX at *
            generalize w3.heap.size = b1 at *
            generalize b1 + 1 = b2 at *
            refine (lpage HP.out.tk.bk HR1.out HR2.out (fun u hu => by rw [List.mem_singleton] at hu; subst hu; exact ⟨_, rfl⟩) (fun u hu => by rw [List.mem_singleton] at hu; subst hu; exact ⟨_, rfl, H8.out⟩)).mono ?_; rintro e w4 ⟨bA, g, rfl, hg, hp, hb⟩
            clear HR1 HR2
            have HG := Lib.hid hg
            have HA := Lib.hid hp.1
            replace HGF := Lib.hid (show Blk _ gb 45 #[.int .i64 kd, .int .i64 fr, .int .i64 pl, .int .u64 vv] ∧ Fo B cr gb from ⟨HGF.out.1.below hb HGF.out.1.lt, HGF.out.2⟩)
            replace HP := Lib.hid (HP.out.fresh hb)
            clear hp hg hb
            go_wp2_with fail
            refine (kfind1 HP.out.tk.bk HA.out HG.out (-1)).mono ?_; rintro e w5 ⟨x, r, rfl, hf, hb⟩
            replace HA := Lib.hid (HA.out.below hb)
            have HFI := Lib.hid hf
            replace HGF := Lib.hid (show Blk _ gb 45 #[.int .i64 kd, .int .i64 fr, .int .i64 pl, .int .u64 vv] ∧ Fo B cr gb from ⟨HGF.out.1.below hb HGF.out.1.lt, HGF.out.2⟩)
            replace HP := Lib.hid (HP.out.fresh hb)
            clear hf hb
            go_wp2_with fail
            obtain ⟨vF9, v9, hrx⟩ := HP.out.rx
            refine (rxfind hrx HS.out HD.out.1 HD.out.2 HA.out HG.out (-1)).mono ?_; rintro e _ ⟨x', r', rfl, hf, rfl⟩
            obtain ⟨rfl, rfl⟩ := hf.unique HFI.out
            clear hf hrx HA HFI
            have q1 : (x' != x') = false := by simp
            cases r' <;> (go_wp2; go_meet; exact ⟨0, G, _, _, _, _, rfl, rfl, HP.out, HS.out, HGF.out.1, HGF.out.2⟩)
      case rest => as_aux_lemma =>
        clear HP HS HGF HD e1
        obtain ⟨x, G, S, B, xs, N, rfl, rfl, hP, hS, hG, hF⟩ := hcut
        have HP := Lib.hid hP
        have HS := Lib.hid hS
        have HGF := Lib.hid (show Blk _ gb 45 #[.int .i64 kd, .int .i64 fr, .int .i64 pl, .int .u64 vv] ∧ Fo B cr gb from ⟨hG, hF⟩)
        clear hP hS hG hF
        have e1 := (HGF.out.1.cell 1).trans rfl
        have hba := (Below.refl wc.heap.size wc).alloc (Nat.le_refl _) (.cells #[.int .u8 1] 5)
        replace HGF := Lib.hid (show Blk (wc.alloc (.cells #[.int .u8 1] 5)) gb 45 #[.int .i64 kd, .int .i64 fr, .int .i64 pl, .int .u64 vv] ∧ Fo B cr gb from ⟨HGF.out.1.below hba HGF.out.1.lt, HGF.out.2⟩)
        replace HP := Lib.hid (HP.out.fresh hba)
        clear hba
        go_wp2_with fail
        generalize wc.alloc (.cells #[.int .u8 1] 5) = w5 at *
        generalize wc.heap.size = b5 at *
        obtain ⟨vF9, v9, hrx⟩ := HP.out.rx
        refine (rxfind1 hrx _ _ (-1)).mono ?_; rintro e _ ⟨rfl, rfl⟩
        have hn12 := HS.out.len HP.out.tk.bk.dom
        obtain ⟨A9, c9, rfl⟩ := hrx.own.form
        obtain ⟨n, hn⟩ : ∃ n, xs.length = n := ⟨_, rfl⟩
        rw [hn] at hrx hn12
        have HN := Lib.hid hn
        have e9 := hrx.c1
        have HV := Lib.hid (show ∃ vF, RX w5 w.heap.size cr vF (.slice A9 n c9) xs G N from ⟨vF9, hrx⟩)
        have HD := Lib.hid HP.out.tk.bk.dom
        clear hn hrx
        have q1 : (x != x) = false := by simp
        have q2 : ((n : Int) != (n : Int)) = false := by simp
        go_upto_region 32 with fail
        refine wp_region_held_drew (S := (fun w' => w'.cell? ⟨cr, 1, none⟩ = some (.slice A9 n c9))) (by kernel_rfl) ?_ (fun hHeld => ?_)
        · exact e9
        clear e9
        replace HP := Lib.hid (show Tw w w5.drew cm cx cr G S B G xs N from HP.out.drewN 1)
        replace HGF := Lib.hid (show Blk w5.drew gb 45 #[.int .i64 kd, .int .i64 fr, .int .i64 pl, .int .u64 vv] ∧ Fo B cr gb from HGF.out)
        obtain ⟨vF8, hv8⟩ := HV.out
        replace HV := Lib.hid (show ∃ vF, RX w5.drew w.heap.size cr vF (.slice A9 n c9) xs G N from ⟨_, hv8.below (Below.refl _ _).drew⟩)
        clear hv8
        generalize w5.drew = wc at *
        ((refine takeY 0 (v := ?_) rfl (by kernel_rfl) (by kernel_rfl) (by kernel_rfl) (fun _ _ _ h => h) (by rfl) (by assumption) ?_ ?_; rotate_left; · (intro w hSw; (try dsimp only at hSw); go_simp; (first | done | with_reducible rfl))))
        (try simp only [Act.put, List.setIfInBounds_toArray, List.set_cons_zero, List.set_cons_succ])
        ((refine takeY 1 (v := ?_) rfl (by kernel_rfl) (by kernel_rfl) (by kernel_rfl) (fun _ _ _ h => h) (by rfl) (by assumption) ?_ ?_; rotate_left; · (intro w hSw; (try dsimp only at hSw); go_simp; (first | done | with_reducible rfl))))
        (try simp only [Act.put, List.setIfInBounds_toArray, List.set_cons_zero, List.set_cons_succ])
        ((refine takeY 2 (v := ?_) rfl (by kernel_rfl) (by kernel_rfl) (by kernel_rfl) (fun _ _ _ h => h) (by rfl) (by assumption) ?_ ?_; rotate_left; · (intro w hSw; (try dsimp only at hSw); go_simp; (first | done | with_reducible rfl))))
        (try simp only [Act.put, List.setIfInBounds_toArray, List.set_cons_zero, List.set_cons_succ])
        ((refine takeY 3 (v := ?_) rfl (by kernel_rfl) (by kernel_rfl) (by kernel_rfl) (fun _ _ _ h => h) (by rfl) (by assumption) ?_ ?_; rotate_left; · (intro w hSw; (try dsimp only at hSw); go_simp; (first | done | with_reducible rfl))))
        (try simp only [Act.put, List.setIfInBounds_toArray, List.set_cons_zero, List.set_cons_succ])
        (first | (refine takeN 4 rfl (by kernel_rfl) (by kernel_rfl) (by kernel_rfl) (fun _ _ _ h => h) (by rfl) (by assumption) ?_) | (refine takeY 4 (v := ?_) rfl (by kernel_rfl) (by kernel_rfl) (by kernel_rfl) (fun _ _ _ h => h) (by rfl) (by assumption) ?_ ?_; rotate_left; · (intro w hSw; (try dsimp only at hSw); go_simp; (first | done | with_reducible rfl))))
        (try simp only [Act.put, List.setIfInBounds_toArray, List.set_cons_zero, List.set_cons_succ])
        ((refine takeY 5 (v := ?_) rfl (by kernel_rfl) (by kernel_rfl) (by kernel_rfl) (fun _ _ _ h => h) (by rfl) (by assumption) ?_ ?_; rotate_left; · (intro w hSw; (try dsimp only at hSw); go_simp; (first | done | with_reducible rfl))))
        (try simp only [Act.put, List.setIfInBounds_toArray, List.set_cons_zero, List.set_cons_succ])
        ((refine takeY 6 (v := ?_) rfl (by kernel_rfl) (by kernel_rfl) (by kernel_rfl) (fun _ _ _ h => h) (by rfl) (by assumption) ?_ ?_; rotate_left; · (intro w hSw; (try dsimp only at hSw); go_simp; (first | done | with_reducible rfl))))
        (try simp only [Act.put, List.setIfInBounds_toArray, List.set_cons_zero, List.set_cons_succ])
        (first | (refine takeN 7 rfl (by kernel_rfl) (by kernel_rfl) (by kernel_rfl) (fun _ _ _ h => h) (by rfl) (by assumption) ?_) | (refine takeY 7 (v := ?_) rfl (by kernel_rfl) (by kernel_rfl) (by kernel_rfl) (fun _ _ _ h => h) (by rfl) (by assumption) ?_ ?_; rotate_left; · (intro w hSw; (try dsimp only at hSw); go_simp; (first | done | with_reducible rfl))))
        (try simp only [Act.put, List.setIfInBounds_toArray, List.set_cons_zero, List.set_cons_succ])
        (first | (refine takeN 9 rfl (by kernel_rfl) (by kernel_rfl) (by kernel_rfl) (fun _ _ _ h => h) (by rfl) (by assumption) ?_) | (refine takeY 9 (v := ?_) rfl (by kernel_rfl) (by kernel_rfl) (by kernel_rfl) (fun _ _ _ h => h) (by rfl) (by assumption) ?_ ?_; rotate_left; · (intro w hSw; (try dsimp only at hSw); go_simp; (first | done | with_reducible rfl))))
        (try simp only [Act.put, List.setIfInBounds_toArray, List.set_cons_zero, List.set_cons_succ])
        (first | (refine takeN 10 rfl (by kernel_rfl) (by kernel_rfl) (by kernel_rfl) (fun _ _ _ h => h) (by rfl) (by assumption) ?_) | (refine takeY 10 (v := ?_) rfl (by kernel_rfl) (by kernel_rfl) (by kernel_rfl) (fun _ _ _ h => h) (by rfl) (by assumption) ?_ ?_; rotate_left; · (intro w hSw; (try dsimp only at hSw); go_simp; (first | done | with_reducible rfl))))
        (try simp only [Act.put, List.setIfInBounds_toArray, List.set_cons_zero, List.set_cons_succ])
        (first | (refine takeN 11 rfl (by kernel_rfl) (by kernel_rfl) (by kernel_rfl) (fun _ _ _ h => h) (by rfl) (by assumption) ?_) | (refine takeY 11 (v := ?_) rfl (by kernel_rfl) (by kernel_rfl) (by kernel_rfl) (fun _ _ _ h => h) (by rfl) (by assumption) ?_ ?_; rotate_left; · (intro w hSw; (try dsimp only at hSw); go_simp; (first | done | with_reducible rfl))))
        (try simp only [Act.put, List.setIfInBounds_toArray, List.set_cons_zero, List.set_cons_succ])
        (first | (refine takeN 12 rfl (by kernel_rfl) (by kernel_rfl) (by kernel_rfl) (fun _ _ _ h => h) (by rfl) (by assumption) ?_) | (refine takeY 12 (v := ?_) rfl (by kernel_rfl) (by kernel_rfl) (by kernel_rfl) (fun _ _ _ h => h) (by rfl) (by assumption) ?_ ?_; rotate_left; · (intro w hSw; (try dsimp only at hSw); go_simp; (first | done | with_reducible rfl))))
        (try simp only [Act.put, List.setIfInBounds_toArray, List.set_cons_zero, List.set_cons_succ])
        (first | (refine takeN 13 rfl (by kernel_rfl) (by kernel_rfl) (by kernel_rfl) (fun _ _ _ h => h) (by rfl) (by assumption) ?_) | (refine takeY 13 (v := ?_) rfl (by kernel_rfl) (by kernel_rfl) (by kernel_rfl) (fun _ _ _ h => h) (by rfl) (by assumption) ?_ ?_; rotate_left; · (intro w hSw; (try dsimp only at hSw); go_simp; (first | done | with_reducible rfl))))
        (try simp only [Act.put, List.setIfInBounds_toArray, List.set_cons_zero, List.set_cons_succ])
        refine stepH 8 rfl (by kernel_rfl) (by rfl) (fun K hK => ?_)
        go_simp
        refine (kcount HP.out.tk.bk).mono ?_; rintro e _ ⟨ks, rfl, hk1, hk2, rfl⟩
        rw [keys_len HS.out hk1 hk2, HN.out]
        clear hk1 hk2
        (refine hK.out _ _ hHeld (fun hHeld => ?_))
        clear hK K
        (first | (refine takeN 14 rfl (by kernel_rfl) (by kernel_rfl) (by kernel_rfl) (fun _ _ _ h => h) (by rfl) (by assumption) ?_) | (refine takeY 14 (v := ?_) rfl (by kernel_rfl) (by kernel_rfl) (by kernel_rfl) (fun _ _ _ h => h) (by rfl) (by assumption) ?_ ?_; rotate_left; · (intro w hSw; (try dsimp only at hSw); go_simp; (first | done | with_reducible rfl))))
        (try simp only [Act.put, List.setIfInBounds_toArray, List.set_cons_zero, List.set_cons_succ])
        ((refine takeY 15 (v := ?_) rfl (by kernel_rfl) (by kernel_rfl) (by kernel_rfl) (fun _ _ _ h => h) (by rfl) (by assumption) ?_ ?_; rotate_left; · (intro w hSw; (try dsimp only at hSw); go_simp; (first | done | with_reducible rfl))))
        (try simp only [Act.put, List.setIfInBounds_toArray, List.set_cons_zero, List.set_cons_succ])
        ((refine takeY 16 (v := ?_) rfl (by kernel_rfl) (by kernel_rfl) (by kernel_rfl) (fun _ _ _ h => h) (by rfl) (by assumption) ?_ ?_; rotate_left; · (intro w hSw; (try dsimp only at hSw); go_simp; (first | done | with_reducible rfl))))
        (try simp only [Act.put, List.setIfInBounds_toArray, List.set_cons_zero, List.set_cons_succ])
        (first | (refine takeN 17 rfl (by kernel_rfl) (by kernel_rfl) (by kernel_rfl) (fun _ _ _ h => h) (by rfl) (by assumption) ?_) | (refine takeY 17 (v := ?_) rfl (by kernel_rfl) (by kernel_rfl) (by kernel_rfl) (fun _ _ _ h => h) (by rfl) (by assumption) ?_ ?_; rotate_left; · (intro w hSw; (try dsimp only at hSw); go_simp; (first | done | with_reducible rfl))))
        (try simp only [Act.put, List.setIfInBounds_toArray, List.set_cons_zero, List.set_cons_succ])
        (first | (refine takeN 19 rfl (by kernel_rfl) (by kernel_rfl) (by kernel_rfl) (fun _ _ _ h => h) (by rfl) (by assumption) ?_) | (refine takeY 19 (v := ?_) rfl (by kernel_rfl) (by kernel_rfl) (by kernel_rfl) (fun _ _ _ h => h) (by rfl) (by assumption) ?_ ?_; rotate_left; · (intro w hSw; (try dsimp only at hSw); go_simp; (first | done | with_reducible rfl))))
        (try simp only [Act.put, List.setIfInBounds_toArray, List.set_cons_zero, List.set_cons_succ])
        refine stepH 18 rfl (by kernel_rfl) (by rfl) (fun K hK => ?_)
        go_simp
        refine (kalike HP.out.tk.bk).mono ?_; rintro e wn ⟨v1, us, rfl, k1, k2, k3, hb⟩
        replace HGF := Lib.hid (show Blk wn gb 45 #[.int .i64 kd, .int .i64 fr, .int .i64 pl, .int .u64 vv] ∧ Fo B cr gb from ⟨HGF.out.1.below hb HGF.out.1.lt, HGF.out.2⟩)
        obtain ⟨vF8, hv8⟩ := HV.out
        replace HV := Lib.hid (show ∃ vF, RX wn w.heap.size cr vF (.slice A9 n c9) xs G N from ⟨_, hv8.below hb⟩)
        clear hv8
        replace HP := Lib.hid (HP.out.fresh hb)
        clear hb
        have HG1 := Lib.hid (show ∃ B, GRows wn B v1 us from ⟨_, ⟨k1, k2⟩⟩)
        have HU1 := Lib.hid k3
        clear k1 k2 k3
        (refine hK.out _ _ ?_ (fun hHeld => ?_))
        · obtain ⟨_, hv8⟩ := HV.out; exact hv8.c1
        clear hK K
        obtain ⟨wc, rfl⟩ : ∃ x : World, x = wn := ⟨_, rfl⟩
        refine stepH 20 rfl (by kernel_rfl) (by rfl) (fun K hK => ?_)
        go_simp
        obtain ⟨vF8, hv8⟩ := HV.out
        refine (rxalike hv8 HS.out HD.out).mono ?_; rintro e wn ⟨v2, ts, rfl, k1, k2, k3, hb⟩
        clear hv8
        replace HGF := Lib.hid (show Blk wn gb 45 #[.int .i64 kd, .int .i64 fr, .int .i64 pl, .int .u64 vv] ∧ Fo B cr gb from ⟨HGF.out.1.below hb HGF.out.1.lt, HGF.out.2⟩)
        obtain ⟨vF8, hv8⟩ := HV.out
        replace HV := Lib.hid (show ∃ vF, RX wn w.heap.size cr vF (.slice A9 n c9) xs G N from ⟨_, hv8.below hb⟩)
        clear hv8
        obtain ⟨B18, hg18⟩ := HG1.out
        replace HG1 := Lib.hid (show ∃ B, GRows wn B v1 us from ⟨_, hg18.below hb⟩)
        clear hg18
        replace HP := Lib.hid (HP.out.fresh hb)
        clear hb
        have HG2 := Lib.hid (show ∃ B, GRows wn B v2 ts from ⟨_, ⟨k1, k2⟩⟩)
        have HU2 := Lib.hid k3
        clear k1 k2 k3
        (refine hK.out _ _ ?_ (fun hHeld => ?_))
        · obtain ⟨_, hv8⟩ := HV.out; exact hv8.c1
        clear hK K
        obtain ⟨wc, rfl⟩ : ∃ x : World, x = wn := ⟨_, rfl⟩
        refine stepH 21 rfl (by kernel_rfl) (by rfl) (fun K hK => ?_)
        go_simp
        obtain ⟨B18, hg18⟩ := HG1.out
        obtain ⟨B20, hg20⟩ := HG2.out
        refine (lgroups hg18 hg20 (HU1.out.unique HU2.out) (fun u hu => by have := (alike_small HD.out HU1.out).2 _ (List.mem_map_of_mem hu); omega) (by have := (alike_small HD.out HU1.out).1; rw [List.length_map] at this; omega)).mono ?_; rintro e wn ⟨rfl, q, rfl⟩
        clear hg18 hg20 HG1 HG2
        have hb := below_drewN (Below.refl wc.heap.size wc) q
        generalize wc.drewN q = wn at *
        replace HGF := Lib.hid (show Blk wn gb 45 #[.int .i64 kd, .int .i64 fr, .int .i64 pl, .int .u64 vv] ∧ Fo B cr gb from ⟨HGF.out.1.below hb HGF.out.1.lt, HGF.out.2⟩)
        obtain ⟨vF8, hv8⟩ := HV.out
        replace HV := Lib.hid (show ∃ vF, RX wn w.heap.size cr vF (.slice A9 n c9) xs G N from ⟨_, hv8.below hb⟩)
        clear hv8
        replace HP := Lib.hid (HP.out.fresh hb)
        clear hb
        (refine hK.out _ _ ?_ (fun hHeld => ?_))
        · obtain ⟨_, hv8⟩ := HV.out; exact hv8.c1
        clear hK K
        obtain ⟨wc, rfl⟩ : ∃ x : World, x = wn := ⟨_, rfl⟩
        (first | (refine takeN 22 rfl (by kernel_rfl) (by kernel_rfl) (by kernel_rfl) (fun _ _ _ h => h) (by rfl) (by assumption) ?_) | (refine takeY 22 (v := ?_) rfl (by kernel_rfl) (by kernel_rfl) (by kernel_rfl) (fun _ _ _ h => h) (by rfl) (by assumption) ?_ ?_; rotate_left; · (intro w hSw; (try dsimp only at hSw); go_simp; (first | done | with_reducible rfl))))
        (try simp only [Act.put, List.setIfInBounds_toArray, List.set_cons_zero, List.set_cons_succ])
        ((refine takeY 23 (v := ?_) rfl (by kernel_rfl) (by kernel_rfl) (by kernel_rfl) (fun _ _ _ h => h) (by rfl) (by assumption) ?_ ?_; rotate_left; · (intro w hSw; (try dsimp only at hSw); go_simp; (first | done | with_reducible rfl))))
        (try simp only [Act.put, List.setIfInBounds_toArray, List.set_cons_zero, List.set_cons_succ])
        refine wpAnyH_done (by kernel_rfl) ?_ _
        clear hHeld
        have e9 := (show wc.cell? ⟨cr, 1, none⟩ = some (.slice A9 n c9) from by obtain ⟨_, hv8⟩ := HV.out; exact hv8.c1)
        have e1 := (HGF.out.1.cell 1).trans rfl
        obtain ⟨wo, rfl⟩ : ∃ x : World, x = wc := ⟨_, rfl⟩
        clear HGF HU1 HU2 HD
        go_wp2_with fail
        go_loopw [24, 25] (PlK wo xs fr n) (fun _ v _ => n - cntI v)
        case atStart => exact ⟨0, rfl, Nat.zero_le _, rfl, 0, rfl⟩
        case round =>
          obtain ⟨j, rfl, hj, rfl, q, rfl⟩ := hrel
          obtain ⟨b, hb9⟩ : ∃ b, inL (xs.take j) fr = b := ⟨_, rfl⟩
          rw [hb9]
          have HB9 := Lib.hid hb9
          clear hb9
          by_cases hjn : j < n
          · have g1 : decide ((j : Int) < (n : Int)) = true := by simp; exact hjn
            have g1' : decide (j < n) = true := by simp; exact hjn
            have hjn2 : (j : Int) < (n : Int) := by omega
            obtain ⟨⟨f2, z2⟩, hy⟩ : ∃ y, xs[j]? = some y := ⟨_, List.getElem?_eq_getElem (by rw [HN.out]; exact hjn)⟩
            obtain ⟨_, hv8⟩ := HV.out
            obtain ⟨g2, hg2, d0, _⟩ := hv8.own.cells hy
            subst hg2
            have d0 : wo.cell? ⟨g2, j * 2, none⟩ = some (.int .i64 f2) := d0
            have HT := Lib.hid (inL_take hy fr)
            clear hy hv8
            cases b with
            | true =>
              have HN9 := Lib.hid (show inL (xs.take (j + 1)) fr = true from by rw [HT.out, HB9.out]; rfl)
              go_wp2_with fail
              go_quiet (fail)
              go_wp2
              go_roundw
              case rel => exact ⟨j + 1, by go_num, by omega, by rw [HN9.out], _, rfl⟩
              case measure => simp [cntI]; omega
            | false =>
              by_cases hff : f2 = fr
              · have hf2 : (f2 == fr) = true := by simpa using hff
                have HN9 := Lib.hid (show inL (xs.take (j + 1)) fr = true from by rw [HT.out, HB9.out]; exact hf2)
                clear hff
                go_wp2_with fail
                go_quiet (fail)
                go_wp2
                go_roundw
                case rel => exact ⟨j + 1, by go_num, by omega, by rw [HN9.out], _, rfl⟩
                case measure => simp [cntI]; omega
              · have hf2 : (f2 == fr) = false := by simpa using hff
                have HN9 := Lib.hid (show inL (xs.take (j + 1)) fr = false from by rw [HT.out, HB9.out]; exact hf2)
                clear hff
                go_wp2_with fail
                go_quiet (fail)
                go_wp2
                go_roundw
                case rel => exact ⟨j + 1, by go_num, by omega, by rw [HN9.out], _, rfl⟩
                case measure => simp [cntI]; omega
          · obtain rfl : j = n := by omega
            have g1 : decide ((j : Int) < (j : Int)) = false := by simp
            have HSO := Lib.hid (show (S ⟨fr, hwf⟩).isSome = b from by rw [← inL_is HS.out hwf, ← HB9.out, List.take_of_length_le (by rw [HN.out]; exact Nat.le_refl _)])
            have g2 : (b != b) = false := by simp
            go_wp2_with fail
            refine (khas (HP.out.drewN q).tk.bk fr hwf).mono ?_; rintro e _ ⟨rfl, rfl⟩
            rw [HSO.out]
            go_wp2
            go_roundw
            case rel => exact ⟨i + 1, G, S, B, xs, N, by go_num, by omega, HP.out.drewN q, HS.out⟩
            case measure => simp [cntI]; omega
    · have hlt' : m ≤ i ∨ (i < m ∧ 60 ≤ i) := by omega
      clear hlt
      rcases hlt' with h | ⟨h1, h2⟩
      · go_wp2_with fail
        refine (told_any _).mono ?_; rintro e w7 ⟨rfl, hb⟩
        replace HP := Lib.hid (HP.out.fresh hb)
        clear hb
        go_wp2
        go_ret
        exact ⟨rfl, HP.out.tk.be⟩
      · go_wp2_with fail
        refine (told_any _).mono ?_; rintro e w7 ⟨rfl, hb⟩
        replace HP := Lib.hid (HP.out.fresh hb)
        clear hb
        go_wp2
        go_ret
        exact ⟨rfl, HP.out.tk.be⟩
end Go.Proofs.Ytkpngkdkkcadfaa
