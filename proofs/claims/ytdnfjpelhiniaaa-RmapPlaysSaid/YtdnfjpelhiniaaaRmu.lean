/- The walk of the statement RmapPlays: it returns true. -/
import Derived.Test.YtdnfjpelhiniaaaRmt
import Derived.Deep.DeepCutAuto
import Derived.Deep.CutBlock
namespace Go.Proofs.Ytdnfjpelhiniaaa
open Go.RowKit Mf

set_option maxRecDepth 100000 in
set_option maxHeartbeats 8000000 in
theorem rmapPlays_walk (A : Option Addr) (m c0 : Nat) (xs0 : List Value) (w : World) (hr : Reads w w.heap.size 4 A m xs0) (hx : CellsR opK xs0) :
    Calls Try.prog 3 #[.slice A m c0] w fun e w' => e = .returned (.bool true) ∧ Below w.heap.size w w' := by
  obtain ⟨O, hO⟩ := ops_fn hr.1 hx
  have HR := Lib.hid hr
  have HO := Lib.hid hO
  clear hr hx hO
  go_enter Try.func3, Try.ntmps3
  go_wp2_with fail
  refine (lnew w).mono ?_; rintro e w1 ⟨rfl, ⟨B1, h1⟩, hb1⟩
  have HP := Lib.hid (show Pl w (w1.alloc (.cells #[.slice none 0 0] 28)) (w.heap.size + 1) w1.heap.size 0 _ B1 (.slice none 0 0) [] from
    ⟨h1.below ((Below.refl _ _).alloc (Nat.le_refl _) _), ⟨Blk.new _ _ _, World.ownsRow_nil _ _ _ _, Nat.lt_succ_self _⟩, fun h => by have := (h1.lt h).2; omega, fun g h => (by cases h), hb1.size, hb1.alloc hb1.size _⟩)
  clear h1 hb1
  go_wp2_with fail
  generalize w1.alloc (.cells #[.slice none 0 0] 28) = w2 at *
  generalize w1.heap.size = c at *
  generalize w.heap.size + 1 = cm at *
  go_loopw [5] (PlR w cm c) (fun v _ => 80 - cntI v)
  case atStart => exact ⟨0, _, _, _, _, rfl, Nat.zero_le _, Nat.le_refl _, HP.out, USim.zero⟩
  case round =>
    clear HP
    obtain ⟨i, u, Bm, v, xs, rfl, hi, hxl, hP, hS⟩ := hrel
    have HP := Lib.hid hP
    have HS := Lib.hid hS
    clear hP hS
    by_cases hlt : i < m ∧ i < 80
    · obtain ⟨l1, l2⟩ := hlt
      have him2 : (i : Int) < (m : Int) := by omega
      obtain ⟨ad, rfl, hadb, c0, c1, c2, c3⟩ := op_cells (HR.out.below HP.out.be) HO.out l1
      have c3' : wr.cell? ⟨(ad.add (i * 4)).block, (ad.add (i * 4)).off + 3, none⟩ = some (.int .u64 (O i).p.1.2) := c3
      obtain ⟨kd, hkd⟩ : ∃ kd, (O i).kd = kd := ⟨_, rfl⟩
      obtain ⟨f, hf⟩ : ∃ f, (O i).fr = f := ⟨_, rfl⟩
      obtain ⟨p, hp⟩ : ∃ p, (O i).p = p := ⟨_, rfl⟩
      have hwf := (O i).wf
      rw [hkd] at c0
      rw [hf] at c1 hwf
      rw [hp] at c2 c3 c3'
      clear hkd hf hp hadb
      obtain ⟨r, hrr⟩ : ∃ r, kd.tmod 3 = r := ⟨_, rfl⟩
      obtain ⟨hr1, hr2⟩ := tmod_bdn kd 3 (by decide)
      rw [hrr] at hr1 hr2
      obtain ⟨y, hy, hy2⟩ : ∃ y : Nat, r + 3 = (y : Int) ∧ y ≤ 5 := ⟨(r + 3).toNat, by omega, by omega⟩
      obtain ⟨s, hs, hs2⟩ : ∃ s : Nat, (y : Int) % 3 = (s : Int) ∧ s < 3 := ⟨y % 3, by simp, by omega⟩
      clear hr1 hr2
      have hbo := (Below.refl wr.heap.size wr).alloc (Nat.le_refl _) (.cells #[.int .i64 kd, .int .i64 f, .int .i64 p.1.1, .int .u64 p.1.2] 33)
      have HF := Lib.hid (HP.out.fo (Nat.le_refl _))
      have HG := Lib.hid (Blk.new wr 33 #[.int .i64 kd, .int .i64 f, .int .i64 p.1.1, .int .u64 p.1.2])
      replace HP := Lib.hid (HP.out.fresh hbo)
      clear hbo
      go_upto_if 37 with (fail)
      generalize wr.alloc (.cells #[.int .i64 kd, .int .i64 f, .int .i64 p.1.1, .int .u64 p.1.2] 33) = w3 at *
      generalize wr.heap.size = g at *
      clear c0 c1 c2 c3 c3' him2
      have e1 := (HG.out.cell 1).trans rfl
      have e2 := (HG.out.cell 2).trans rfl
      have e3 := (HG.out.cell 3).trans rfl
      go_cut [7, 8] (PlC w cm c i g #[.int .i64 kd, .int .i64 f, .int .i64 p.1.1, .int .u64 p.1.2])
      case first =>
        by_cases hs1 : s < 2
        · have q1 : decide ((s : Int) < 2) = true := by simp; omega
          have q1' : decide (s < 2) = true := by simp; omega
          go_upto_region 10 with fail
          refine wp_region_held_drew (S := (fun w' => w'.cell? ⟨g, 1, none⟩ = some (.int .i64 f) ∧ w'.cell? ⟨g, 2, none⟩ = some (.int .i64 p.1.1) ∧ w'.cell? ⟨g, 2 + 1, none⟩ = some (.int .u64 p.1.2))) (by kernel_rfl) ?_ (fun hHeld => ?_)
          · exact ⟨e1, e2, e3⟩
          clear e1 e2 e3
          replace HP := Lib.hid (show Pl w w3.drew cm c (2 * i) u Bm v xs from HP.out.drewN 1)
          replace HG := Lib.hid (show Blk w3.drew g 33 #[.int .i64 kd, .int .i64 f, .int .i64 p.1.1, .int .u64 p.1.2] from HG.out)
          generalize w3.drew = wc at *
          ((refine takeY 0 (v := ?_) rfl (by kernel_rfl) (by kernel_rfl) (by kernel_rfl) (fun _ _ _ h => h) (by rfl) (by assumption) ?_ ?_; rotate_left; · (intro w hSw; (try dsimp only at hSw); go_simp; (first | done | with_reducible rfl))))
          (try simp only [Act.put, List.setIfInBounds_toArray, List.set_cons_zero, List.set_cons_succ])
          ((refine takeY 1 (v := ?_) rfl (by kernel_rfl) (by kernel_rfl) (by kernel_rfl) (fun _ _ _ h => h) (by rfl) (by assumption) ?_ ?_; rotate_left; · (intro w hSw; (try dsimp only at hSw); go_simp; (first | done | with_reducible rfl))))
          (try simp only [Act.put, List.setIfInBounds_toArray, List.set_cons_zero, List.set_cons_succ])
          ((refine takeY 2 (v := ?_) rfl (by kernel_rfl) (by kernel_rfl) (by kernel_rfl) (fun _ _ _ h => h) (by rfl) (by assumption) ?_ ?_; rotate_left; · (intro w hSw; (try dsimp only at hSw); go_simp; (first | done | with_reducible rfl))))
          (try simp only [Act.put, List.setIfInBounds_toArray, List.set_cons_zero, List.set_cons_succ])
          ((refine takeY 3 (v := ?_) rfl (by kernel_rfl) (by kernel_rfl) (by kernel_rfl) (fun _ _ _ h => h) (by rfl) (by assumption) ?_ ?_; rotate_left; · (intro w hSw; (try dsimp only at hSw); go_simp; (first | done | with_reducible rfl))))
          (try simp only [Act.put, List.setIfInBounds_toArray, List.set_cons_zero, List.set_cons_succ])
          ((refine takeY 4 (v := ?_) rfl (by kernel_rfl) (by kernel_rfl) (by kernel_rfl) (fun _ _ _ h => h) (by rfl) (by assumption) ?_ ?_; rotate_left; · (intro w hSw; (try dsimp only at hSw); go_simp; (first | done | with_reducible rfl))))
          (try simp only [Act.put, List.setIfInBounds_toArray, List.set_cons_zero, List.set_cons_succ])
          ((refine takeY 6 (v := ?_) rfl (by kernel_rfl) (by kernel_rfl) (by kernel_rfl) (fun _ _ _ h => h) (by rfl) (by assumption) ?_ ?_; rotate_left; · (intro w hSw; (try dsimp only at hSw); go_simp; (first | done | with_reducible rfl))))
          (try simp only [Act.put, List.setIfInBounds_toArray, List.set_cons_zero, List.set_cons_succ])
          ((refine takeY 7 (v := ?_) rfl (by kernel_rfl) (by kernel_rfl) (by kernel_rfl) (fun _ _ _ h => h) (by rfl) (by assumption) ?_ ?_; rotate_left; · (intro w hSw; (try dsimp only at hSw); go_simp; (first | done | with_reducible rfl))))
          (try simp only [Act.put, List.setIfInBounds_toArray, List.set_cons_zero, List.set_cons_succ])
          ((refine takeY 8 (v := ?_) rfl (by kernel_rfl) (by kernel_rfl) (by kernel_rfl) (fun _ _ _ h => h) (by rfl) (by assumption) ?_ ?_; rotate_left; · (intro w hSw; (try dsimp only at hSw); go_simp; (first | done | with_reducible rfl))))
          (try simp only [Act.put, List.setIfInBounds_toArray, List.set_cons_zero, List.set_cons_succ])
          ((refine takeY 9 (v := ?_) rfl (by kernel_rfl) (by kernel_rfl) (by kernel_rfl) (fun _ _ _ h => h) (by rfl) (by assumption) ?_ ?_; rotate_left; · (intro w hSw; (try dsimp only at hSw); go_simp; (first | done | with_reducible rfl))))
          (try simp only [Act.put, List.setIfInBounds_toArray, List.set_cons_zero, List.set_cons_succ])
          ((refine takeY 10 (v := ?_) rfl (by kernel_rfl) (by kernel_rfl) (by kernel_rfl) (fun _ _ _ h => h) (by rfl) (by assumption) ?_ ?_; rotate_left; · (intro w hSw; (try dsimp only at hSw); go_simp; (first | done | with_reducible rfl))))
          (try simp only [Act.put, List.setIfInBounds_toArray, List.set_cons_zero, List.set_cons_succ])
          refine stepH 5 rfl (by kernel_rfl) (by rfl) (fun K hK => ?_)
          go_simp
          refine (ladd HP.out.mp f hwf p (by omega) (by have := HP.out.be.size; omega)).mono ?_; rintro e wn ⟨rfl, hto⟩
          obtain ⟨Bm2, hP2, hk2⟩ := HP.out.toM hto
          have HGF := Lib.hid (hk2 _ _ _ HG.out HF.out)
          replace HP := Lib.hid hP2
          clear hto hP2 hk2 HG HF
          (refine hK.out _ _ ?_ (fun hHeld => ?_))
          · exact ⟨(HGF.out.1.cell 1).trans rfl, (HGF.out.1.cell 2).trans rfl, (HGF.out.1.cell 3).trans rfl⟩
          clear hK K
          obtain ⟨wc, rfl⟩ : ∃ x : World, x = wn := ⟨_, rfl⟩
          refine stepH 11 rfl (by kernel_rfl) (by rfl) (fun K hK => ?_)
          go_simp
          refine (ruadd HP.out.ru HS.out (by omega) (by have := HP.out.ru.blk.lt; omega) f p).mono ?_; rintro e wn ⟨rfl, hr2⟩
          obtain ⟨v2, hP2, hk2⟩ := HP.out.toR hr2
          have HGF2 := Lib.hid (hk2 _ _ _ HGF.out.1 HGF.out.2)
          have HS2 := Lib.hid (HS.out.add f p)
          replace HP := Lib.hid (hP2.mono (N' := 2 * (i + 1)) (by omega))
          clear hr2 hP2 hk2 HGF
          (refine hK.out _ _ ?_ (fun hHeld => ?_))
          · exact ⟨(HGF2.out.1.cell 1).trans rfl, (HGF2.out.1.cell 2).trans rfl, (HGF2.out.1.cell 3).trans rfl⟩
          clear hK K
          obtain ⟨wc, rfl⟩ : ∃ x : World, x = wn := ⟨_, rfl⟩
          ((refine takeY 12 (v := ?_) rfl (by kernel_rfl) (by kernel_rfl) (by kernel_rfl) (fun _ _ _ h => h) (by rfl) (by assumption) ?_ ?_; rotate_left; · (intro w hSw; (try dsimp only at hSw); go_simp; (first | done | with_reducible rfl))))
          (try simp only [Act.put, List.setIfInBounds_toArray, List.set_cons_zero, List.set_cons_succ])
          ((refine takeY 13 (v := ?_) rfl (by kernel_rfl) (by kernel_rfl) (by kernel_rfl) (fun _ _ _ h => h) (by rfl) (by assumption) ?_ ?_; rotate_left; · (intro w hSw; (try dsimp only at hSw); go_simp; (first | done | with_reducible rfl))))
          (try simp only [Act.put, List.setIfInBounds_toArray, List.set_cons_zero, List.set_cons_succ])
          refine wpAnyH_done (by kernel_rfl) ?_ _
          clear hHeld
          go_wp2
          go_meet
          exact ⟨_, _, Bm2, v2, _, rfl, rfl, by (have := raddL_len u xs f p; omega), HP.out, HS2.out, HGF2.out.1⟩
        · have q1 : decide ((s : Int) < 2) = false := by simp; omega
          have q1' : decide (s < 2) = false := by simp; omega
          go_upto_region 11 with fail
          refine wp_region_held_drew (S := (fun w' => w'.cell? ⟨g, 1, none⟩ = some (.int .i64 f) ∧ w'.cell? ⟨g, 2, none⟩ = some (.int .i64 p.1.1) ∧ w'.cell? ⟨g, 2 + 1, none⟩ = some (.int .u64 p.1.2))) (by kernel_rfl) ?_ (fun hHeld => ?_)
          · exact ⟨e1, e2, e3⟩
          clear e1 e2 e3
          replace HP := Lib.hid (show Pl w w3.drew cm c (2 * i) u Bm v xs from HP.out.drewN 1)
          replace HG := Lib.hid (show Blk w3.drew g 33 #[.int .i64 kd, .int .i64 f, .int .i64 p.1.1, .int .u64 p.1.2] from HG.out)
          generalize w3.drew = wc at *
          ((refine takeY 0 (v := ?_) rfl (by kernel_rfl) (by kernel_rfl) (by kernel_rfl) (fun _ _ _ h => h) (by rfl) (by assumption) ?_ ?_; rotate_left; · (intro w hSw; (try dsimp only at hSw); go_simp; (first | done | with_reducible rfl))))
          (try simp only [Act.put, List.setIfInBounds_toArray, List.set_cons_zero, List.set_cons_succ])
          ((refine takeY 1 (v := ?_) rfl (by kernel_rfl) (by kernel_rfl) (by kernel_rfl) (fun _ _ _ h => h) (by rfl) (by assumption) ?_ ?_; rotate_left; · (intro w hSw; (try dsimp only at hSw); go_simp; (first | done | with_reducible rfl))))
          (try simp only [Act.put, List.setIfInBounds_toArray, List.set_cons_zero, List.set_cons_succ])
          ((refine takeY 2 (v := ?_) rfl (by kernel_rfl) (by kernel_rfl) (by kernel_rfl) (fun _ _ _ h => h) (by rfl) (by assumption) ?_ ?_; rotate_left; · (intro w hSw; (try dsimp only at hSw); go_simp; (first | done | with_reducible rfl))))
          (try simp only [Act.put, List.setIfInBounds_toArray, List.set_cons_zero, List.set_cons_succ])
          ((refine takeY 3 (v := ?_) rfl (by kernel_rfl) (by kernel_rfl) (by kernel_rfl) (fun _ _ _ h => h) (by rfl) (by assumption) ?_ ?_; rotate_left; · (intro w hSw; (try dsimp only at hSw); go_simp; (first | done | with_reducible rfl))))
          (try simp only [Act.put, List.setIfInBounds_toArray, List.set_cons_zero, List.set_cons_succ])
          ((refine takeY 4 (v := ?_) rfl (by kernel_rfl) (by kernel_rfl) (by kernel_rfl) (fun _ _ _ h => h) (by rfl) (by assumption) ?_ ?_; rotate_left; · (intro w hSw; (try dsimp only at hSw); go_simp; (first | done | with_reducible rfl))))
          (try simp only [Act.put, List.setIfInBounds_toArray, List.set_cons_zero, List.set_cons_succ])
          ((refine takeY 6 (v := ?_) rfl (by kernel_rfl) (by kernel_rfl) (by kernel_rfl) (fun _ _ _ h => h) (by rfl) (by assumption) ?_ ?_; rotate_left; · (intro w hSw; (try dsimp only at hSw); go_simp; (first | done | with_reducible rfl))))
          (try simp only [Act.put, List.setIfInBounds_toArray, List.set_cons_zero, List.set_cons_succ])
          ((refine takeY 7 (v := ?_) rfl (by kernel_rfl) (by kernel_rfl) (by kernel_rfl) (fun _ _ _ h => h) (by rfl) (by assumption) ?_ ?_; rotate_left; · (intro w hSw; (try dsimp only at hSw); go_simp; (first | done | with_reducible rfl))))
          (try simp only [Act.put, List.setIfInBounds_toArray, List.set_cons_zero, List.set_cons_succ])
          ((refine takeY 8 (v := ?_) rfl (by kernel_rfl) (by kernel_rfl) (by kernel_rfl) (fun _ _ _ h => h) (by rfl) (by assumption) ?_ ?_; rotate_left; · (intro w hSw; (try dsimp only at hSw); go_simp; (first | done | with_reducible rfl))))
          (try simp only [Act.put, List.setIfInBounds_toArray, List.set_cons_zero, List.set_cons_succ])
          ((refine takeY 9 (v := ?_) rfl (by kernel_rfl) (by kernel_rfl) (by kernel_rfl) (fun _ _ _ h => h) (by rfl) (by assumption) ?_ ?_; rotate_left; · (intro w hSw; (try dsimp only at hSw); go_simp; (first | done | with_reducible rfl))))
          (try simp only [Act.put, List.setIfInBounds_toArray, List.set_cons_zero, List.set_cons_succ])
          ((refine takeY 10 (v := ?_) rfl (by kernel_rfl) (by kernel_rfl) (by kernel_rfl) (fun _ _ _ h => h) (by rfl) (by assumption) ?_ ?_; rotate_left; · (intro w hSw; (try dsimp only at hSw); go_simp; (first | done | with_reducible rfl))))
          (try simp only [Act.put, List.setIfInBounds_toArray, List.set_cons_zero, List.set_cons_succ])
          refine stepH 5 rfl (by kernel_rfl) (by rfl) (fun K hK => ?_)
          go_simp
          refine (ldrop HP.out.mp f hwf p).mono ?_; rintro e wn ⟨rfl, hto⟩
          obtain ⟨Bm2, hP2, hk2⟩ := HP.out.toM hto
          have HGF := Lib.hid (hk2 _ _ _ HG.out HF.out)
          replace HP := Lib.hid hP2
          clear hto hP2 hk2 HG HF
          (refine hK.out _ _ ?_ (fun hHeld => ?_))
          · exact ⟨(HGF.out.1.cell 1).trans rfl, (HGF.out.1.cell 2).trans rfl, (HGF.out.1.cell 3).trans rfl⟩
          clear hK K
          obtain ⟨wc, rfl⟩ : ∃ x : World, x = wn := ⟨_, rfl⟩
          refine stepH 11 rfl (by kernel_rfl) (by rfl) (fun K hK => ?_)
          go_simp
          refine (rudrop HP.out.ru HS.out (by omega) (by have := HP.out.ru.blk.lt; omega) f p).mono ?_; rintro e wn ⟨rfl, ys, hsy, hly, hr2⟩
          obtain ⟨v2, hP2, hk2⟩ := HP.out.toR hr2
          have HGF2 := Lib.hid (hk2 _ _ _ HGF.out.1 HGF.out.2)
          have HS2 := Lib.hid (hsy)
          replace HP := Lib.hid (hP2.mono (N' := 2 * (i + 1)) (by omega))
          clear hr2 hP2 hk2 HGF
          (refine hK.out _ _ ?_ (fun hHeld => ?_))
          · exact ⟨(HGF2.out.1.cell 1).trans rfl, (HGF2.out.1.cell 2).trans rfl, (HGF2.out.1.cell 3).trans rfl⟩
          clear hK K
          obtain ⟨wc, rfl⟩ : ∃ x : World, x = wn := ⟨_, rfl⟩
          ((refine takeY 12 (v := ?_) rfl (by kernel_rfl) (by kernel_rfl) (by kernel_rfl) (fun _ _ _ h => h) (by rfl) (by assumption) ?_ ?_; rotate_left; · (intro w hSw; (try dsimp only at hSw); go_simp; (first | done | with_reducible rfl))))
          (try simp only [Act.put, List.setIfInBounds_toArray, List.set_cons_zero, List.set_cons_succ])
          ((refine takeY 13 (v := ?_) rfl (by kernel_rfl) (by kernel_rfl) (by kernel_rfl) (fun _ _ _ h => h) (by rfl) (by assumption) ?_ ?_; rotate_left; · (intro w hSw; (try dsimp only at hSw); go_simp; (first | done | with_reducible rfl))))
          (try simp only [Act.put, List.setIfInBounds_toArray, List.set_cons_zero, List.set_cons_succ])
          refine wpAnyH_done (by kernel_rfl) ?_ _
          clear hHeld
          go_wp2
          go_meet
          exact ⟨_, _, Bm2, v2, _, rfl, rfl, by omega, HP.out, HS2.out, HGF2.out.1⟩
      case rest =>
        clear HP HS HG HF e1 e2 e3 hxl
        obtain ⟨x, u, Bm, v, xs, rfl, rfl, hxl, hP, hS, hG⟩ := hcut
        have HP := Lib.hid hP
        have HS := Lib.hid hS
        have HG := Lib.hid hG
        clear hP hS hG
        have e1 := (HG.out.cell 1).trans rfl
        go_wp2_with fail
        refine (llist HP.out.mp (by omega) f hwf).mono ?_; rintro e w4 ⟨va, ts, rfl, hts, hrw, hb⟩
        obtain ⟨Aa, ca, rfl⟩ := hrw.form
        have HFA := Lib.hid (HP.out.foR hrw)
        have HTS := Lib.hid hts
        have HRA := Lib.hid hrw
        have htl := HP.out.mp.plen hts
        replace HG := Lib.hid (HG.out.below hb HG.out.lt)
        replace HP := Lib.hid (HP.out.fresh hb)
        clear hts hrw hb e1
        go_wp2_with fail
        refine (lframes HP.out.mp (by omega)).mono ?_; rintro e w5 ⟨vf, fs, rfl, hfs, hrw, hb⟩
        obtain ⟨Af, cf, rfl⟩ := hrw.form
        have HFF := Lib.hid (HP.out.foR hrw)
        have HFS := Lib.hid hfs
        have HRF := Lib.hid hrw
        have hfl := HP.out.mp.flen hfs
        have HNE := Lib.hid (show ∀ a b, (Value.slice Aa ts.length ca).ownBlock = some a → (Value.slice Af fs.length cf).ownBlock = some b → b ≠ a from fun a b h1 h2 e => by
          have := (own_lt HRA.out h1).2; have := (own_lt hrw h2).1; omega)
        replace HG := Lib.hid (HG.out.below hb HG.out.lt)
        replace HRA := Lib.hid (own_below HRA.out hb)
        replace HP := Lib.hid (HP.out.fresh hb)
        clear hfs hrw hb
        have e1 := (HG.out.cell 1).trans rfl
        have e2 := (HG.out.cell 2).trans rfl
        have e3 := (HG.out.cell 3).trans rfl
        obtain ⟨b, hb9⟩ : ∃ b, u f p = b := ⟨_, rfl⟩
        have HBB := Lib.hid hb9
        clear hb9
        obtain ⟨T, hT⟩ : ∃ T, ts.length = T := ⟨_, rfl⟩
        obtain ⟨F, hF⟩ : ∃ F, fs.length = F := ⟨_, rfl⟩
        rw [hT] at htl HRA HFA HNE
        rw [hF] at hfl HRF HFF HNE
        have HTL := Lib.hid (show T = ts.length ∧ F = fs.length from ⟨hT.symm, hF.symm⟩)
        go_upto_region 13 with fail
        clear hT hF
        refine wp_region_held_drew (S := (fun w' => w'.cell? ⟨g, 1, none⟩ = some (.int .i64 f) ∧ w'.cell? ⟨g, 2, none⟩ = some (.int .i64 p.1.1) ∧ w'.cell? ⟨g, 2 + 1, none⟩ = some (.int .u64 p.1.2))) (by kernel_rfl) ?_ (fun hHeld => ?_)
        · exact ⟨e1, e2, e3⟩
        clear e1 e2 e3
        replace HP := Lib.hid (show Pl w w5.drew cm c (2 * (i + 1)) u Bm v xs from HP.out.drewN 1)
        replace HG := Lib.hid (show Blk w5.drew g 33 #[.int .i64 kd, .int .i64 f, .int .i64 p.1.1, .int .u64 p.1.2] from HG.out)
        replace HRA := Lib.hid (show ∃ ba, PRow w5.drew ba (.slice Aa T ca) ts from ⟨_, by unfold PRow; rw [← HTL.out.1]; exact own_below HRA.out (Below.refl _ _).drew⟩)
        replace HRF := Lib.hid (show ∃ bf, IRow w5.drew bf (.slice Af F cf) fs from ⟨_, own_below HRF.out (Below.refl _ _).drew⟩)
        generalize w5.drew = wc at *
        ((refine takeY 0 (v := ?_) rfl (by kernel_rfl) (by kernel_rfl) (by kernel_rfl) (fun _ _ _ h => h) (by rfl) (by assumption) ?_ ?_; rotate_left; · (intro w hSw; (try dsimp only at hSw); go_simp; (first | done | with_reducible rfl))))
        (try simp only [Act.put, List.setIfInBounds_toArray, List.set_cons_zero, List.set_cons_succ])
        ((refine takeY 1 (v := ?_) rfl (by kernel_rfl) (by kernel_rfl) (by kernel_rfl) (fun _ _ _ h => h) (by rfl) (by assumption) ?_ ?_; rotate_left; · (intro w hSw; (try dsimp only at hSw); go_simp; (first | done | with_reducible rfl))))
        (try simp only [Act.put, List.setIfInBounds_toArray, List.set_cons_zero, List.set_cons_succ])
        ((refine takeY 2 (v := ?_) rfl (by kernel_rfl) (by kernel_rfl) (by kernel_rfl) (fun _ _ _ h => h) (by rfl) (by assumption) ?_ ?_; rotate_left; · (intro w hSw; (try dsimp only at hSw); go_simp; (first | done | with_reducible rfl))))
        (try simp only [Act.put, List.setIfInBounds_toArray, List.set_cons_zero, List.set_cons_succ])
        ((refine takeY 3 (v := ?_) rfl (by kernel_rfl) (by kernel_rfl) (by kernel_rfl) (fun _ _ _ h => h) (by rfl) (by assumption) ?_ ?_; rotate_left; · (intro w hSw; (try dsimp only at hSw); go_simp; (first | done | with_reducible rfl))))
        (try simp only [Act.put, List.setIfInBounds_toArray, List.set_cons_zero, List.set_cons_succ])
        (first | (refine takeN 4 rfl (by kernel_rfl) (by kernel_rfl) (by kernel_rfl) (fun _ _ _ h => h) (by rfl) (by assumption) ?_) | (refine takeY 4 (v := ?_) rfl (by kernel_rfl) (by kernel_rfl) (by kernel_rfl) (fun _ _ _ h => h) (by rfl) (by assumption) ?_ ?_; rotate_left; · (intro w hSw; (try dsimp only at hSw); go_simp; (first | done | with_reducible rfl))))
        (try simp only [Act.put, List.setIfInBounds_toArray, List.set_cons_zero, List.set_cons_succ])
        (first | (refine takeN 5 rfl (by kernel_rfl) (by kernel_rfl) (by kernel_rfl) (fun _ _ _ h => h) (by rfl) (by assumption) ?_) | (refine takeY 5 (v := ?_) rfl (by kernel_rfl) (by kernel_rfl) (by kernel_rfl) (fun _ _ _ h => h) (by rfl) (by assumption) ?_ ?_; rotate_left; · (intro w hSw; (try dsimp only at hSw); go_simp; (first | done | with_reducible rfl))))
        (try simp only [Act.put, List.setIfInBounds_toArray, List.set_cons_zero, List.set_cons_succ])
        (first | (refine takeN 6 rfl (by kernel_rfl) (by kernel_rfl) (by kernel_rfl) (fun _ _ _ h => h) (by rfl) (by assumption) ?_) | (refine takeY 6 (v := ?_) rfl (by kernel_rfl) (by kernel_rfl) (by kernel_rfl) (fun _ _ _ h => h) (by rfl) (by assumption) ?_ ?_; rotate_left; · (intro w hSw; (try dsimp only at hSw); go_simp; (first | done | with_reducible rfl))))
        (try simp only [Act.put, List.setIfInBounds_toArray, List.set_cons_zero, List.set_cons_succ])
        (first | (refine takeN 7 rfl (by kernel_rfl) (by kernel_rfl) (by kernel_rfl) (fun _ _ _ h => h) (by rfl) (by assumption) ?_) | (refine takeY 7 (v := ?_) rfl (by kernel_rfl) (by kernel_rfl) (by kernel_rfl) (fun _ _ _ h => h) (by rfl) (by assumption) ?_ ?_; rotate_left; · (intro w hSw; (try dsimp only at hSw); go_simp; (first | done | with_reducible rfl))))
        (try simp only [Act.put, List.setIfInBounds_toArray, List.set_cons_zero, List.set_cons_succ])
        (first | (refine takeN 8 rfl (by kernel_rfl) (by kernel_rfl) (by kernel_rfl) (fun _ _ _ h => h) (by rfl) (by assumption) ?_) | (refine takeY 8 (v := ?_) rfl (by kernel_rfl) (by kernel_rfl) (by kernel_rfl) (fun _ _ _ h => h) (by rfl) (by assumption) ?_ ?_; rotate_left; · (intro w hSw; (try dsimp only at hSw); go_simp; (first | done | with_reducible rfl))))
        (try simp only [Act.put, List.setIfInBounds_toArray, List.set_cons_zero, List.set_cons_succ])
        (first | (refine takeN 10 rfl (by kernel_rfl) (by kernel_rfl) (by kernel_rfl) (fun _ _ _ h => h) (by rfl) (by assumption) ?_) | (refine takeY 10 (v := ?_) rfl (by kernel_rfl) (by kernel_rfl) (by kernel_rfl) (fun _ _ _ h => h) (by rfl) (by assumption) ?_ ?_; rotate_left; · (intro w hSw; (try dsimp only at hSw); go_simp; (first | done | with_reducible rfl))))
        (try simp only [Act.put, List.setIfInBounds_toArray, List.set_cons_zero, List.set_cons_succ])
        (first | (refine takeN 11 rfl (by kernel_rfl) (by kernel_rfl) (by kernel_rfl) (fun _ _ _ h => h) (by rfl) (by assumption) ?_) | (refine takeY 11 (v := ?_) rfl (by kernel_rfl) (by kernel_rfl) (by kernel_rfl) (fun _ _ _ h => h) (by rfl) (by assumption) ?_ ?_; rotate_left; · (intro w hSw; (try dsimp only at hSw); go_simp; (first | done | with_reducible rfl))))
        (try simp only [Act.put, List.setIfInBounds_toArray, List.set_cons_zero, List.set_cons_succ])
        (first | (refine takeN 12 rfl (by kernel_rfl) (by kernel_rfl) (by kernel_rfl) (fun _ _ _ h => h) (by rfl) (by assumption) ?_) | (refine takeY 12 (v := ?_) rfl (by kernel_rfl) (by kernel_rfl) (by kernel_rfl) (fun _ _ _ h => h) (by rfl) (by assumption) ?_ ?_; rotate_left; · (intro w hSw; (try dsimp only at hSw); go_simp; (first | done | with_reducible rfl))))
        (try simp only [Act.put, List.setIfInBounds_toArray, List.set_cons_zero, List.set_cons_succ])
        (first | (refine takeN 13 rfl (by kernel_rfl) (by kernel_rfl) (by kernel_rfl) (fun _ _ _ h => h) (by rfl) (by assumption) ?_) | (refine takeY 13 (v := ?_) rfl (by kernel_rfl) (by kernel_rfl) (by kernel_rfl) (fun _ _ _ h => h) (by rfl) (by assumption) ?_ ?_; rotate_left; · (intro w hSw; (try dsimp only at hSw); go_simp; (first | done | with_reducible rfl))))
        (try simp only [Act.put, List.setIfInBounds_toArray, List.set_cons_zero, List.set_cons_succ])
        (first | (refine takeN 14 rfl (by kernel_rfl) (by kernel_rfl) (by kernel_rfl) (fun _ _ _ h => h) (by rfl) (by assumption) ?_) | (refine takeY 14 (v := ?_) rfl (by kernel_rfl) (by kernel_rfl) (by kernel_rfl) (fun _ _ _ h => h) (by rfl) (by assumption) ?_ ?_; rotate_left; · (intro w hSw; (try dsimp only at hSw); go_simp; (first | done | with_reducible rfl))))
        (try simp only [Act.put, List.setIfInBounds_toArray, List.set_cons_zero, List.set_cons_succ])
        refine stepH 9 rfl (by kernel_rfl) (by rfl) (fun K hK => ?_)
        go_simp
        refine (lhas HP.out.mp f hwf p).mono ?_; rintro e wn ⟨rfl, hb⟩
        rw [HBB.out]
        replace HG := Lib.hid (HG.out.below hb HG.out.lt)
        replace HP := Lib.hid (HP.out.fresh hb)
        obtain ⟨ba1, hra1⟩ := HRA.out
        obtain ⟨bf1, hrf1⟩ := HRF.out
        replace HRA := Lib.hid (show ∃ ba, PRow _ ba (.slice Aa T ca) _ from ⟨_, own_below hra1 hb⟩)
        replace HRF := Lib.hid (show ∃ bf, IRow _ bf (.slice Af F cf) _ from ⟨_, own_below hrf1 hb⟩)
        clear hra1 hrf1 hb
        (refine hK.out _ _ ?_ (fun hHeld => ?_))
        · exact ⟨(HG.out.cell 1).trans rfl, (HG.out.cell 2).trans rfl, (HG.out.cell 3).trans rfl⟩
        clear hK K
        obtain ⟨wc, rfl⟩ : ∃ x : World, x = wn := ⟨_, rfl⟩
        refine stepH 15 rfl (by kernel_rfl) (by rfl) (fun K hK => ?_)
        go_simp
        refine (ruhas HP.out.ru HS.out (by omega) f p).mono ?_; rintro e wn ⟨rfl, hb⟩
        rw [HBB.out]
        replace HG := Lib.hid (HG.out.below hb HG.out.lt)
        replace HP := Lib.hid (HP.out.fresh hb)
        obtain ⟨ba1, hra1⟩ := HRA.out
        obtain ⟨bf1, hrf1⟩ := HRF.out
        replace HRA := Lib.hid (show ∃ ba, PRow _ ba (.slice Aa T ca) _ from ⟨_, own_below hra1 hb⟩)
        replace HRF := Lib.hid (show ∃ bf, IRow _ bf (.slice Af F cf) _ from ⟨_, own_below hrf1 hb⟩)
        clear hra1 hrf1 hb
        (refine hK.out _ _ ?_ (fun hHeld => ?_))
        · exact ⟨(HG.out.cell 1).trans rfl, (HG.out.cell 2).trans rfl, (HG.out.cell 3).trans rfl⟩
        clear hK K
        obtain ⟨wc, rfl⟩ : ∃ x : World, x = wn := ⟨_, rfl⟩
        (first | (refine takeN 16 rfl (by kernel_rfl) (by kernel_rfl) (by kernel_rfl) (fun _ _ _ h => h) (by rfl) (by assumption) ?_) | (refine takeY 16 (v := ?_) rfl (by kernel_rfl) (by kernel_rfl) (by kernel_rfl) (fun _ _ _ h => h) (by rfl) (by assumption) ?_ ?_; rotate_left; · (intro w hSw; (try dsimp only at hSw); go_simp; (first | done | with_reducible rfl))))
        (try simp only [Act.put, List.setIfInBounds_toArray, List.set_cons_zero, List.set_cons_succ])
        ((refine takeY 17 (v := ?_) rfl (by kernel_rfl) (by kernel_rfl) (by kernel_rfl) (fun _ _ _ h => h) (by rfl) (by assumption) ?_ ?_; rotate_left; · (intro w hSw; (try dsimp only at hSw); go_simp; (first | done | with_reducible rfl))))
        (try simp only [Act.put, List.setIfInBounds_toArray, List.set_cons_zero, List.set_cons_succ])
        ((refine takeY 18 (v := ?_) rfl (by kernel_rfl) (by kernel_rfl) (by kernel_rfl) (fun _ _ _ h => h) (by rfl) (by assumption) ?_ ?_; rotate_left; · (intro w hSw; (try dsimp only at hSw); go_simp; (first | done | with_reducible rfl))))
        (try simp only [Act.put, List.setIfInBounds_toArray, List.set_cons_zero, List.set_cons_succ])
        (first | (refine takeN 19 rfl (by kernel_rfl) (by kernel_rfl) (by kernel_rfl) (fun _ _ _ h => h) (by rfl) (by assumption) ?_) | (refine takeY 19 (v := ?_) rfl (by kernel_rfl) (by kernel_rfl) (by kernel_rfl) (fun _ _ _ h => h) (by rfl) (by assumption) ?_ ?_; rotate_left; · (intro w hSw; (try dsimp only at hSw); go_simp; (first | done | with_reducible rfl))))
        (try simp only [Act.put, List.setIfInBounds_toArray, List.set_cons_zero, List.set_cons_succ])
        (first | (refine takeN 20 rfl (by kernel_rfl) (by kernel_rfl) (by kernel_rfl) (fun _ _ _ h => h) (by rfl) (by assumption) ?_) | (refine takeY 20 (v := ?_) rfl (by kernel_rfl) (by kernel_rfl) (by kernel_rfl) (fun _ _ _ h => h) (by rfl) (by assumption) ?_ ?_; rotate_left; · (intro w hSw; (try dsimp only at hSw); go_simp; (first | done | with_reducible rfl))))
        (try simp only [Act.put, List.setIfInBounds_toArray, List.set_cons_zero, List.set_cons_succ])
        (first | (refine takeN 21 rfl (by kernel_rfl) (by kernel_rfl) (by kernel_rfl) (fun _ _ _ h => h) (by rfl) (by assumption) ?_) | (refine takeY 21 (v := ?_) rfl (by kernel_rfl) (by kernel_rfl) (by kernel_rfl) (fun _ _ _ h => h) (by rfl) (by assumption) ?_ ?_; rotate_left; · (intro w hSw; (try dsimp only at hSw); go_simp; (first | done | with_reducible rfl))))
        (try simp only [Act.put, List.setIfInBounds_toArray, List.set_cons_zero, List.set_cons_succ])
        (first | (refine takeN 22 rfl (by kernel_rfl) (by kernel_rfl) (by kernel_rfl) (fun _ _ _ h => h) (by rfl) (by assumption) ?_) | (refine takeY 22 (v := ?_) rfl (by kernel_rfl) (by kernel_rfl) (by kernel_rfl) (fun _ _ _ h => h) (by rfl) (by assumption) ?_ ?_; rotate_left; · (intro w hSw; (try dsimp only at hSw); go_simp; (first | done | with_reducible rfl))))
        (try simp only [Act.put, List.setIfInBounds_toArray, List.set_cons_zero, List.set_cons_succ])
        refine stepH 23 rfl (by kernel_rfl) (by rfl) (fun K hK => ?_)
        go_simp
        refine (rulist HP.out.ru HS.out (by omega) f).mono ?_; rintro e wn ⟨v9, ts9, rfl, hts, hrw, hb⟩
        obtain rfl := hts.unique HTS.out
        have HR9 := Lib.hid hrw
        clear hts hrw
        replace HG := Lib.hid (HG.out.below hb HG.out.lt)
        replace HP := Lib.hid (HP.out.fresh hb)
        obtain ⟨ba1, hra1⟩ := HRA.out
        obtain ⟨bf1, hrf1⟩ := HRF.out
        replace HRA := Lib.hid (show ∃ ba, PRow _ ba (.slice Aa T ca) _ from ⟨_, own_below hra1 hb⟩)
        replace HRF := Lib.hid (show ∃ bf, IRow _ bf (.slice Af F cf) _ from ⟨_, own_below hrf1 hb⟩)
        clear hra1 hrf1 hb
        (refine hK.out _ _ ?_ (fun hHeld => ?_))
        · exact ⟨(HG.out.cell 1).trans rfl, (HG.out.cell 2).trans rfl, (HG.out.cell 3).trans rfl⟩
        clear hK K
        obtain ⟨wc, rfl⟩ : ∃ x : World, x = wn := ⟨_, rfl⟩
        refine stepH 24 rfl (by kernel_rfl) (by rfl) (fun K hK => ?_)
        go_simp
        obtain ⟨ba9, hra9⟩ := HRA.out
        refine (psame hra9 HR9.out (by have := HTL.out; omega)).mono ?_; rintro e wn ⟨rfl, q, rfl⟩
        rw [show decide (ts9 = ts9) = true from by simp]
        have hb := below_drewN (Below.refl wc.heap.size wc) q
        generalize wc.drewN q = wn at *
        clear HR9 hra9
        replace HG := Lib.hid (HG.out.below hb HG.out.lt)
        replace HP := Lib.hid (HP.out.fresh hb)
        obtain ⟨ba1, hra1⟩ := HRA.out
        obtain ⟨bf1, hrf1⟩ := HRF.out
        replace HRA := Lib.hid (show ∃ ba, PRow _ ba (.slice Aa T ca) _ from ⟨_, own_below hra1 hb⟩)
        replace HRF := Lib.hid (show ∃ bf, IRow _ bf (.slice Af F cf) _ from ⟨_, own_below hrf1 hb⟩)
        clear hra1 hrf1 hb
        (refine hK.out _ _ ?_ (fun hHeld => ?_))
        · exact ⟨(HG.out.cell 1).trans rfl, (HG.out.cell 2).trans rfl, (HG.out.cell 3).trans rfl⟩
        clear hK K
        obtain ⟨wc, rfl⟩ : ∃ x : World, x = wn := ⟨_, rfl⟩
        (first | (refine takeN 25 rfl (by kernel_rfl) (by kernel_rfl) (by kernel_rfl) (fun _ _ _ h => h) (by rfl) (by assumption) ?_) | (refine takeY 25 (v := ?_) rfl (by kernel_rfl) (by kernel_rfl) (by kernel_rfl) (fun _ _ _ h => h) (by rfl) (by assumption) ?_ ?_; rotate_left; · (intro w hSw; (try dsimp only at hSw); go_simp; (first | done | with_reducible rfl))))
        (try simp only [Act.put, List.setIfInBounds_toArray, List.set_cons_zero, List.set_cons_succ])
        ((refine takeY 26 (v := ?_) rfl (by kernel_rfl) (by kernel_rfl) (by kernel_rfl) (fun _ _ _ h => h) (by rfl) (by assumption) ?_ ?_; rotate_left; · (intro w hSw; (try dsimp only at hSw); go_simp; (first | done | with_reducible rfl))))
        (try simp only [Act.put, List.setIfInBounds_toArray, List.set_cons_zero, List.set_cons_succ])
        ((refine takeY 27 (v := ?_) rfl (by kernel_rfl) (by kernel_rfl) (by kernel_rfl) (fun _ _ _ h => h) (by rfl) (by assumption) ?_ ?_; rotate_left; · (intro w hSw; (try dsimp only at hSw); go_simp; (first | done | with_reducible rfl))))
        (try simp only [Act.put, List.setIfInBounds_toArray, List.set_cons_zero, List.set_cons_succ])
        (first | (refine takeN 28 rfl (by kernel_rfl) (by kernel_rfl) (by kernel_rfl) (fun _ _ _ h => h) (by rfl) (by assumption) ?_) | (refine takeY 28 (v := ?_) rfl (by kernel_rfl) (by kernel_rfl) (by kernel_rfl) (fun _ _ _ h => h) (by rfl) (by assumption) ?_ ?_; rotate_left; · (intro w hSw; (try dsimp only at hSw); go_simp; (first | done | with_reducible rfl))))
        (try simp only [Act.put, List.setIfInBounds_toArray, List.set_cons_zero, List.set_cons_succ])
        (first | (refine takeN 29 rfl (by kernel_rfl) (by kernel_rfl) (by kernel_rfl) (fun _ _ _ h => h) (by rfl) (by assumption) ?_) | (refine takeY 29 (v := ?_) rfl (by kernel_rfl) (by kernel_rfl) (by kernel_rfl) (fun _ _ _ h => h) (by rfl) (by assumption) ?_ ?_; rotate_left; · (intro w hSw; (try dsimp only at hSw); go_simp; (first | done | with_reducible rfl))))
        (try simp only [Act.put, List.setIfInBounds_toArray, List.set_cons_zero, List.set_cons_succ])
        refine stepH 30 rfl (by kernel_rfl) (by rfl) (fun K hK => ?_)
        go_simp
        refine (ruframes HP.out.ru HS.out (by omega)).mono ?_; rintro e wn ⟨v9, fs9, rfl, hts, hrw, hb⟩
        obtain rfl := hts.unique HFS.out
        have HR9 := Lib.hid hrw
        clear hts hrw
        replace HG := Lib.hid (HG.out.below hb HG.out.lt)
        replace HP := Lib.hid (HP.out.fresh hb)
        obtain ⟨ba1, hra1⟩ := HRA.out
        obtain ⟨bf1, hrf1⟩ := HRF.out
        replace HRA := Lib.hid (show ∃ ba, PRow _ ba (.slice Aa T ca) _ from ⟨_, own_below hra1 hb⟩)
        replace HRF := Lib.hid (show ∃ bf, IRow _ bf (.slice Af F cf) _ from ⟨_, own_below hrf1 hb⟩)
        clear hra1 hrf1 hb
        (refine hK.out _ _ ?_ (fun hHeld => ?_))
        · exact ⟨(HG.out.cell 1).trans rfl, (HG.out.cell 2).trans rfl, (HG.out.cell 3).trans rfl⟩
        clear hK K
        obtain ⟨wc, rfl⟩ : ∃ x : World, x = wn := ⟨_, rfl⟩
        refine stepH 31 rfl (by kernel_rfl) (by rfl) (fun K hK => ?_)
        go_simp
        obtain ⟨bf9, hrf9⟩ := HRF.out
        refine (pints hrf9 HR9.out (by have := HTL.out; omega)).mono ?_; rintro e wn ⟨rfl, q, rfl⟩
        rw [show decide (fs9 = fs9) = true from by simp]
        have hb := below_drewN (Below.refl wc.heap.size wc) q
        generalize wc.drewN q = wn at *
        clear HR9 hrf9
        replace HG := Lib.hid (HG.out.below hb HG.out.lt)
        replace HP := Lib.hid (HP.out.fresh hb)
        obtain ⟨ba1, hra1⟩ := HRA.out
        obtain ⟨bf1, hrf1⟩ := HRF.out
        replace HRA := Lib.hid (show ∃ ba, PRow _ ba (.slice Aa T ca) _ from ⟨_, own_below hra1 hb⟩)
        replace HRF := Lib.hid (show ∃ bf, IRow _ bf (.slice Af F cf) _ from ⟨_, own_below hrf1 hb⟩)
        clear hra1 hrf1 hb
        (refine hK.out _ _ ?_ (fun hHeld => ?_))
        · exact ⟨(HG.out.cell 1).trans rfl, (HG.out.cell 2).trans rfl, (HG.out.cell 3).trans rfl⟩
        clear hK K
        obtain ⟨wc, rfl⟩ : ∃ x : World, x = wn := ⟨_, rfl⟩
        (first | (refine takeN 32 rfl (by kernel_rfl) (by kernel_rfl) (by kernel_rfl) (fun _ _ _ h => h) (by rfl) (by assumption) ?_) | (refine takeY 32 (v := ?_) rfl (by kernel_rfl) (by kernel_rfl) (by kernel_rfl) (fun _ _ _ h => h) (by rfl) (by assumption) ?_ ?_; rotate_left; · (intro w hSw; (try dsimp only at hSw); go_simp; (first | done | with_reducible rfl))))
        (try simp only [Act.put, List.setIfInBounds_toArray, List.set_cons_zero, List.set_cons_succ])
        ((refine takeY 33 (v := ?_) rfl (by kernel_rfl) (by kernel_rfl) (by kernel_rfl) (fun _ _ _ h => h) (by rfl) (by assumption) ?_ ?_; rotate_left; · (intro w hSw; (try dsimp only at hSw); go_simp; (first | done | with_reducible rfl))))
        (try simp only [Act.put, List.setIfInBounds_toArray, List.set_cons_zero, List.set_cons_succ])
        refine wpAnyH_done (by kernel_rfl) ?_ _
        clear hHeld
        go_wp2_with fail
        clear HG HBB
        go_loopw [11] (PlA w cm c (2 * (i + 1)) u Bm v xs (.slice Aa T ca) (.slice Af F cf) T F) (fun v _ => T - cntI v)
        case atStart =>
          obtain ⟨ba, hra⟩ := HRA.out
          obtain ⟨bf, hrf⟩ := HRF.out
          unfold PRow at hra
          unfold IRow at hrf
          rw [← HTL.out.1] at hra
          rw [← HTL.out.2] at hrf
          exact ⟨0, _, _, ba, bf, rfl, Nat.zero_le _, HP.out, hra, hrf⟩
        case round =>
          clear HP HRA HRF
          obtain ⟨k, cs, ds, ba, bf, rfl, hk, hP, hra, hrf⟩ := hrel
          have HP := Lib.hid hP
          have HRA := Lib.hid hra
          have HRF := Lib.hid hrf
          clear hP hra hrf
          by_cases hkT : k < T
          · have g2 : decide ((k : Int) < (T : Int)) = true := by simp; exact hkT
            have g2' : decide (k < T) = true := by simp; exact hkT
            have hkT2 : (k : Int) < (T : Int) := by omega
            obtain ⟨ga, cap, hs, hgs, _⟩ := HRA.out.form (by omega)
            injection hs with hs1 hs2 hs3
            subst hs1 hs3
            obtain ⟨z, hz⟩ : ∃ z, cs[k * 2]? = some z := ⟨_, List.getElem?_eq_getElem (by have := HRA.out.1; omega)⟩
            have cz := (HRA.out.cellAt (k * 2) (by omega)).trans hz
            have hfz := HRA.out.frozenAt (k * 2)
            have HST := Lib.hid (HRA.out.stored (k * 2) (.int .i64 (-1))).1
            have HP2 := Lib.hid (HP.out.poke (HFA.out ga rfl).1 (HFA.out ga rfl).2 (k * 2) (.int .i64 (-1)))
            have HRF2 := Lib.hid (own_apart HRF.out (Only.setCell (S := fun j => j = ga) (Only.refl _ wr) (p := ⟨ga, k * 2, none⟩) (.inl rfl) (.int .i64 (-1))) (fun g' hg' => HNE.out ga g' rfl hg'))
            clear hz hgs
            go_wp2
            exact ⟨⟨k + 1, _, ds, _, bf, by go_num, by omega, HP2.out, HST.out, HRF2.out⟩, by simp [cntI]; omega⟩
          · obtain rfl : k = T := by omega
            have g2 : decide ((k : Int) < (k : Int)) = false := by simp
            clear HRA HFA HNE
            go_wp2_with fail
            go_loopw [12] (PlF w cm c (2 * (i + 1)) u Bm v xs (.slice Af F cf) F) (fun v _ => F - cntI v)
            case atStart => exact ⟨0, _, bf, rfl, Nat.zero_le _, HP.out, HRF.out⟩
            case round =>
              clear HP HRF
              obtain ⟨n, ds, bf, rfl, hn, hP, hrf⟩ := hrel
              have HP := Lib.hid hP
              have HRF := Lib.hid hrf
              clear hP hrf
              by_cases hnF : n < F
              · have g3 : decide ((n : Int) < (F : Int)) = true := by simp; exact hnF
                have g3' : decide (n < F) = true := by simp; exact hnF
                have hnF2 : (n : Int) < (F : Int) := by omega
                obtain ⟨gf, cap, hs, hgs, _⟩ := HRF.out.form (by omega)
                injection hs with hs1 hs2 hs3
                subst hs1 hs3
                obtain ⟨z, hz⟩ : ∃ z, ds[n]? = some z := ⟨_, List.getElem?_eq_getElem (by have := HRF.out.1; omega)⟩
                have cz := (HRF.out.cellAt n (by omega)).trans hz
                have hfz := HRF.out.frozenAt n
                have HST := Lib.hid (HRF.out.stored n (.int .i64 (-1))).1
                have HP2 := Lib.hid (HP.out.poke (HFF.out gf rfl).1 (HFF.out gf rfl).2 n (.int .i64 (-1)))
                clear hz hgs
                go_wp2
                exact ⟨⟨n + 1, _, _, by go_num, by omega, HP2.out, HST.out⟩, by simp [cntI]; omega⟩
              · obtain rfl : n = F := by omega
                have g3 : decide ((n : Int) < (n : Int)) = false := by simp
                go_wp2
                exact ⟨⟨i + 1, u, Bm, v, xs, by go_num, by omega, hxl, HP.out, HS.out⟩, by simp [cntI]; omega⟩
    · have hlt' : m ≤ i ∨ (i < m ∧ 80 ≤ i) := by omega
      clear hlt
      rcases hlt' with h | ⟨h1, h2⟩
      · go_wp2_with fail
        refine (told_any _).mono ?_; rintro e w7 ⟨rfl, hb⟩
        replace HP := Lib.hid (HP.out.fresh hb)
        clear hb
        go_wp2
        go_ret
        exact ⟨rfl, HP.out.be⟩
      · go_wp2_with fail
        refine (told_any _).mono ?_; rintro e w7 ⟨rfl, hb⟩
        replace HP := Lib.hid (HP.out.fresh hb)
        clear hb
        go_wp2
        go_ret
        exact ⟨rfl, HP.out.be⟩
end Go.Proofs.Ytdnfjpelhiniaaa
