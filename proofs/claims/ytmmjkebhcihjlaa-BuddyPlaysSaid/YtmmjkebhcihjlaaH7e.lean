/- The walk of the statement BuddyPlays: it returns true. -/
import Derived.Test.YtmmjkebhcihjlaaH7f
import Derived.Test.YtmmjkebhcihjlaaQui
namespace Go.Proofs.Ytmmjkebhcihjlaa
open Go.RowKit

set_option maxRecDepth 100000 in
set_option maxHeartbeats 8000000 in
theorem buddyPlays_ok (fi n : Nat) (A : Option Addr) (m c : Nat) (xs : List Value) (w : World) (hn : n ≤ 1500) (hfn : fi + n ≤ 1048576) (hr : Reads w w.heap.size 3 A m xs) (hx : CellsR [.i .i64, .i .i64, .i .i64] xs) :
    Calls Try.prog 3 #[.int .i64 (fi : Int), .int .i64 (n : Int), .slice A m c] w fun e w' => e = .returned (.bool true) ∧ Below w.heap.size w w' := by
  have HR := Lib.hid hr
  have HX := Lib.hid hx
  have g1 : decide ((1500 : Int) < (n : Int)) = false := by simp; omega
  obtain ⟨i0, hi0, hz0', hz1, hz2⟩ := info_parts infoR
  clear hr hx
  go_enter Try.func3, Try.ntmps3
  go_wp2_with fail
  refine (lnew_ok fi n _ (by omega) (by omega)).mono ?_; rintro e w1 ⟨rfl, ⟨B1, h1⟩, hb1⟩
  have H1 := Lib.hid h1
  have HB1 := Lib.hid hb1
  clear h1 hb1
  go_wp2_with fail
  refine (rnew_ok fi n _ hn hfn).mono ?_; rintro e w2 ⟨cq, gq, rfl, hrf, hb2, hgq⟩
  have HP2 := Lib.hid (show Pl w w2 w.heap.size cq gq fi n (seg fi n) (seg fi n) B1 (.slice none 0 0) [] from ⟨H1.out.below hb2, ⟨hrf.blk, ownsRow_mono hrf.on HB1.out.size, hrf.rng, hrf.hi, hrf.ne, Nat.le_trans HB1.out.size hrf.lo⟩, World.ownsRow_nil _ _ _ _, fun hB => by have := (H1.out.lt hB).2; have := hrf.lo; omega, fun hB => by have := (H1.out.lt hB).2; omega, fun g hg => (by cases hg), HB1.out.trans (hb2.mono HB1.out.size)⟩)
  clear hrf hb2 hgq H1 HB1
  go_wp2_with fail
  go_loopw [11, 12] (PsR w w.heap.size cq gq fi n) (fun _ v _ => 60 - cntI v)
  case atStart => exact ⟨0, _, _, [], rfl, by omega, Nat.le_refl _, fun x hx => (by cases hx), HP2.out⟩
  case round =>
    clear HP2
    obtain ⟨i, S, B, T, rfl, hi, hTl, hTb, hpl⟩ := hrel
    obtain ⟨Av, cv, rfl, _⟩ := own_sl hpl.wt
    obtain ⟨L, hL⟩ : ∃ L, T.length = L := ⟨_, rfl⟩
    rw [hL] at hpl ⊢
    have HP := Lib.hid hpl
    have HTB := Lib.hid hTb
    have HL := Lib.hid hL
    rw [hL] at hTl
    clear hpl hTb hL
    by_cases hlt : i < m ∧ i < 60
    · obtain ⟨l1, l2⟩ := hlt
      obtain ⟨ad, rfl, hadb, hcell⟩ := (HR.out.below HP.out.be).2 (by omega)
      have hlen := HR.out.1
      have hint : ∀ q k, q < 3 → ([.i .i64, .i .i64, .i .i64] : List CK)[q]? = some (.i k) → ∃ z, wr.cell? (ad.add (i * 3 + q)) = some (.int k z) ∧ (Lit.int k z).wf = true := fun q k hq hk => by
        have hq' : i * 3 + q < xs.length := by omega
        obtain ⟨z, hz, hwz⟩ := HX.out.int hq' (kind_at (ks := [.i .i64, .i .i64, .i .i64]) hq hk)
        exact ⟨z, hcell _ _ hz, hwz⟩
      obtain ⟨kd, hc0, _⟩ := hint 0 .i64 (by decide) rfl
      rw [Nat.add_zero] at hc0
      obtain ⟨fr, hc1, hwf⟩ := hint 1 .i64 (by decide) rfl
      obtain ⟨od, hc2, _⟩ := hint 2 .i64 (by decide) rfl
      rw [add_field' _ _ _ (by decide)] at hc1 hc2
      have hc2' : wr.cell? ⟨(ad.add (i * 3)).block, (ad.add (i * 3)).off + 1 + 1, none⟩ = some (.int .i64 od) := hc2
      have hfrb : -9223372036854775808 ≤ fr ∧ fr ≤ 9223372036854775807 := by
        simp only [Lit.wf, IntKind.min, IntKind.max, Bool.and_eq_true] at hwf
        simp [IntKind.bits, IntKind.signed] at hwf
        omega
      have HFB := Lib.hid hfrb
      clear hcell hint hlen hwf hfrb
      obtain ⟨a1, ha1⟩ : ∃ r, kd.tmod 5 = r := ⟨_, rfl⟩
      have hab := tmod_bdn kd 5 (by decide)
      rw [ha1] at hab
      obtain ⟨ab1, ab2⟩ := hab
      obtain ⟨a2, ha2, ha3⟩ : ∃ r : Nat, a1 + 5 = (r : Int) ∧ r < 10 := ⟨(a1 + 5).toNat, by omega, by omega⟩
      obtain ⟨kr, hkr, hkr5⟩ : ∃ r : Nat, (a2 : Int) % 5 = (r : Int) ∧ r < 5 := ⟨a2 % 5, by omega, by omega⟩
      have HPG := Lib.hid (HP.out.lay #[.int .i64 kd, .int .i64 fr, .int .i64 od])
      have b0 := HPG.out.gb.cell 0
      have b1' := HPG.out.gb.cell 1
      have b2' := HPG.out.gb.cell 2
      go_wp2_with fail
      go_quiet (fail)
      have HPG3 := Lib.hid (HPG.out.drewN nq)
      obtain ⟨gg, hgg⟩ : ∃ gg, gg = wr.heap.size := ⟨_, rfl⟩
      generalize (wr.alloc (.cells #[.int .i64 kd, .int .i64 fr, .int .i64 od] 33)).drewN nq = w3 at *
      rw [← hgg] at HPG3 ⊢
      clear HPG b0 b1' b2' hc0 hc1 hc2 hc2' hgg HP ha1 ha2
      have k0 := (HPG3.out.gb.cell 0).trans rfl
      have k1 := (HPG3.out.gb.cell 1).trans rfl
      have k2 := (HPG3.out.gb.cell 2).trans rfl
      rename_i hk
      refine hk _ _ ?_
      rw [hkr]
      clear hkr
      refine wp_seq_k fun K' hK' => ?_
      go_cut [15, 16] (CtR w w.heap.size cq gq fi n S B (.slice Av L cv) T gg #[.int .i64 kd, .int .i64 fr, .int .i64 od])
      case first =>
        by_cases h2k : 2 < kr
        · have j1 : decide ((2 : Int) < (kr : Int)) = true := by simp; omega
          have j1' : decide (2 < kr) = true := by simp; omega
          by_cases hL0 : L = 0
          · have j2 : decide ((0 : Int) < (L : Int)) = false := by simp; omega
            have j2' : decide (0 < L) = false := by simp; omega
            clear hL0
            go_wp2
            go_meet
            exact ⟨fr, od, rfl, rfl, HFB.out.2, HPG3.out⟩
          · have j2 : decide ((0 : Int) < (L : Int)) = true := by simp; omega
            have j2' : decide (0 < L) = true := by simp; omega
            obtain ⟨r1, hr1⟩ : ∃ r, fr.tmod (L : Int) = r := ⟨_, rfl⟩
            have hb1 := tmod_bdn fr L (by omega)
            rw [hr1] at hb1
            obtain ⟨bb1, bb2⟩ := hb1
            obtain ⟨r2, hr2⟩ : ∃ r : Nat, r1 + (L : Int) = (r : Int) := ⟨(r1 + (L : Int)).toNat, by omega⟩
            obtain ⟨r3, hr3, hr4⟩ : ∃ r : Nat, (r2 : Int) % (L : Int) = (r : Int) ∧ r < L := ⟨r2 % L, by simp, Nat.mod_lt _ (by omega)⟩
            obtain ⟨⟨f, o⟩, hx⟩ : ∃ x, T[r3]? = some x := ⟨_, List.getElem?_eq_getElem (by rw [HL.out]; exact hr4)⟩
            obtain ⟨tb1, tb2⟩ := HTB.out _ (List.mem_of_getElem? hx)
            have tb1' : f ≤ 1048576 := tb1
            have tb2' : o ≤ 9 := tb2
            obtain ⟨x0, x1⟩ := flat_pv hx
            obtain ⟨ga, rfl, q0⟩ := own_prs HPG3.out.pl.wt _ _ x0
            obtain ⟨_, e9, q1⟩ := own_prs HPG3.out.pl.wt _ _ x1
            cases e9
            have hr42 : (r3 : Int) < (L : Int) := by omega
            have hm1 : bits .and .i64 od 1 = od % 2 := mask64 od 1 (by omega)
            obtain ⟨ob, hob, hob2⟩ : ∃ x : Nat, od % 2 = (x : Int) ∧ x < 2 := ⟨(od % 2).toNat, by omega, by omega⟩
            rw [hob] at hm1
            clear hx x0 x1 tb1 tb2 hob
            go_wp2_with fail
            rw [hr3]
            go_quiet (fail)
            have HPG4 := Lib.hid (HPG3.out.drewN nq)
            clear HPG3 k0 k1 q0 q1
            generalize w3.drewN nq = w4 at *
            have k2 := (HPG4.out.gb.cell 2).trans rfl
            by_cases h4 : kr = 4
            · have j3 : ((kr : Int) == 4) = true := by simp; omega
              have j3' : (kr == 4) = true := by simp; exact h4
              clear h4
              by_cases ho0 : o = 0
              · have j4 : decide ((0 : Int) < (o : Int)) = false := by simp; omega
                have j4' : decide (0 < o) = false := by simp; omega
                clear ho0
                go_wp2
                go_meet
                exact ⟨f, o, rfl, rfl, by omega, HPG4.out⟩
              · have j4 : decide ((0 : Int) < (o : Int)) = true := by simp; omega
                have j4' : decide (0 < o) = true := by simp; omega
                obtain ⟨o1, ho1, ho12⟩ : ∃ x : Nat, (o : Int) - 1 = (x : Int) ∧ x ≤ 9 := ⟨o - 1, by omega, by omega⟩
                obtain ⟨s, hs, hs2⟩ : ∃ s : Nat, (2 : Int) ^ o1 = (s : Int) ∧ s ≤ 512 := ⟨2 ^ o1, by simp, by have := Bud.pow_le ho12; omega⟩
                obtain ⟨y, hy, hy2⟩ : ∃ y : Nat, (ob : Int) * (s : Int) = (y : Int) ∧ y ≤ 512 := ⟨ob * s, by simp, by
                  have := Nat.mul_le_mul_right s (show ob ≤ 1 by omega); omega⟩
                clear ho0
                go_wp2
                go_meet
                exact ⟨_, _, rfl, rfl, by omega, HPG4.out⟩
            · have j3 : ((kr : Int) == 4) = false := by simp; omega
              have j3' : (kr == 4) = false := by simp; exact h4
              clear h4
              go_wp2
              go_meet
              exact ⟨f, o, rfl, rfl, by omega, HPG4.out⟩
        · have j1 : decide ((2 : Int) < (kr : Int)) = false := by simp; omega
          have j1' : decide (2 < kr) = false := by simp; omega
          go_wp2
          go_meet
          exact ⟨fr, od, rfl, rfl, HFB.out.2, HPG3.out⟩
      case rest =>
        clear HPG3 k0 k1 k2
        obtain ⟨X, Y, rfl, rfl, hX, hpg⟩ := hcut
        refine hK' _ _ ?_
        clear hK'
        have HP4 := Lib.hid hpg
        clear hpg
        have k2 := (HP4.out.gb.cell 2).trans rfl
        by_cases hk2 : kr < 2
        · have j5 : decide ((kr : Int) < 2) = true := by simp; omega
          have j5' : decide (kr < 2) = true := by simp; omega
          obtain ⟨f, r, S', hcs, hp, hq⟩ := take_dec fi n S hn hfn HP4.out.pl.bd.rng od
          have CP := Lib.hid (hp _ _ _ _ HP4.out.pl.bd)
          have CQ := Lib.hid hq
          have HCS := Lib.hid hcs
          clear hp hq hcs
          go_wp2_with fail
          refine CP.out.mono ?_; rintro e w5 ⟨rfl, ht9⟩
          obtain ⟨B5, hp5⟩ := HP4.out.p ht9
          have HP5 := Lib.hid hp5
          clear hp5 ht9 CP HP4 k2
          have k2 := (HP5.out.gb.cell 2).trans rfl
          go_wp2_with fail
          refine (CQ.out _ _ _ _ HP5.out.pl.rf).mono ?_; rintro e w6 ⟨rfl, ht9⟩
          have HP6 := Lib.hid (HP5.out.q ht9)
          clear ht9 CQ HP5 k2
          have k2 := (HP6.out.gb.cell 2).trans rfl
          rcases HCS.out with ⟨hr0, o, f', hod, ho9, hf', hfb⟩ | hr0
          · subst hr0 hf' hod
            clear HCS
            go_wp2_with (first
              | (at_builtin; refine wpList_append_any _ rfl (.tmp 158) (.tmp 163) _ rfl w.heap.size 34 i0 _ 2 16 Try.underlying31 hi0 hz0' hz1 hz2 rfl (by omega) (.slice Av L cv) _ _ rfl (HP6.out.pl.wt.alloc _) _ (some ⟨w6.heap.size, 0, none⟩) 1 1 [.int .i64 (f' : Int), .int .i64 (o : Int)] rfl (reads_pair _ _ _ _) (by simp; exact ⟨rfl, rfl⟩) (by have := HL.out; unfold maxLen; omega) (by have := HL.out; omega) (by have := HP6.out.pl.be.size; simp; omega) ?_; intro v2 w9 hown2 hg4 hat2)
              | go_in)
            have HP9 := Lib.hid ((HP6.out.below ((Below.refl _ _).alloc (Nat.le_refl _) _)).app (T' := T ++ [(f', o)]) (by rw [List.length_append, List.flatMap_append]; exact hown2) hg4 (by
              rcases hat2 with h | h
              · exact .inl h
              · exact .inr ⟨_, h, Nat.le_refl _⟩))
            clear hown2 hg4 hat2 HP6 k2
            obtain ⟨cn, hcn⟩ : ∃ cn, cntS S' fi n = cn := ⟨_, rfl⟩
            obtain ⟨hb, hhb⟩ : ∃ hb, hasF S' fr = hb := ⟨_, rfl⟩
            have CF1 := Lib.hid (fun q => (by have := lfree (HP9.out.pl.bd.drewN q); rw [hcn] at this; exact this : Calls Try.prog 15 #[.pointer (some ⟨w.heap.size, 0, none⟩)] (w9.drewN q) fun e w' => e = .returned (.int .i64 (cn : Int)) ∧ w9.drewN q = w'))
            have CF2 := Lib.hid (fun q => (by have := rfree (HP9.out.pl.rf.drewN q) hn; rw [hcn] at this; exact this : Calls Try.prog 16 #[.pointer (some ⟨cq, 0, none⟩)] (w9.drewN q) fun e w' => e = .returned (.int .i64 (cn : Int)) ∧ w9.drewN q = w'))
            have CH1 := Lib.hid (fun q => (by have := lhas (HP9.out.pl.bd.drewN q) fr; rw [hhb] at this; exact this : Calls Try.prog 17 #[.pointer (some ⟨w.heap.size, 0, none⟩), .int .i64 fr] (w9.drewN q) fun e w' => e = .returned (.bool hb) ∧ ∃ q', w' = (w9.drewN q).drewN q'))
            have CH2 := Lib.hid (fun q => (by have := rhas (HP9.out.pl.rf.drewN q) fr HFB.out; rw [hhb] at this; exact this : Calls Try.prog 18 #[.pointer (some ⟨cq, 0, none⟩), .int .i64 fr] (w9.drewN q) fun e w' => e = .returned (.bool hb) ∧ ∃ q', w' = (w9.drewN q).drewN q'))
            have nn1 : ((cn : Int) != (cn : Int)) = false := by simp
            have nn2 : (cn != cn) = false := by simp
            have nn3 : (hb != hb) = false := by simp
            clear hcn hhb
            have e1 := (HP9.out.gb.cell 1).trans rfl
            skip
            go_quiet (first
              | (go_at_call 15; refine quiet_left (CF1.out _))
              | (go_at_call 16; refine quiet_left (CF2.out _))
              | (go_at_call 17; refine quiet_drew (CH1.out _))
              | (go_at_call 18; refine quiet_drew (CH2.out _)))
            go_wp2
            go_roundw
            case rel => exact ⟨i + 1, _, _, T ++ [(f', o)], by go_num, by omega, by rw [List.length_append, HL.out]; simp; omega, fun x hx => by (rcases List.mem_append.1 hx with hx | hx); exact HTB.out x hx; (rw [List.mem_singleton.1 hx]; exact ⟨hfb, ho9⟩), (HP9.out.drewN _).pl⟩
            case measure => simp [cntI]; omega
          · have j6 : (r == 0) = false := by simp; exact hr0
            clear HCS hr0
            have HP9 := HP6
            obtain ⟨w9, rfl⟩ : ∃ w9 : World, w9 = w6 := ⟨_, rfl⟩
            clear HP6
            obtain ⟨cn, hcn⟩ : ∃ cn, cntS S' fi n = cn := ⟨_, rfl⟩
            obtain ⟨hb, hhb⟩ : ∃ hb, hasF S' fr = hb := ⟨_, rfl⟩
            have CF1 := Lib.hid (fun q => (by have := lfree (HP9.out.pl.bd.drewN q); rw [hcn] at this; exact this : Calls Try.prog 15 #[.pointer (some ⟨w.heap.size, 0, none⟩)] (w9.drewN q) fun e w' => e = .returned (.int .i64 (cn : Int)) ∧ w9.drewN q = w'))
            have CF2 := Lib.hid (fun q => (by have := rfree (HP9.out.pl.rf.drewN q) hn; rw [hcn] at this; exact this : Calls Try.prog 16 #[.pointer (some ⟨cq, 0, none⟩)] (w9.drewN q) fun e w' => e = .returned (.int .i64 (cn : Int)) ∧ w9.drewN q = w'))
            have CH1 := Lib.hid (fun q => (by have := lhas (HP9.out.pl.bd.drewN q) fr; rw [hhb] at this; exact this : Calls Try.prog 17 #[.pointer (some ⟨w.heap.size, 0, none⟩), .int .i64 fr] (w9.drewN q) fun e w' => e = .returned (.bool hb) ∧ ∃ q', w' = (w9.drewN q).drewN q'))
            have CH2 := Lib.hid (fun q => (by have := rhas (HP9.out.pl.rf.drewN q) fr HFB.out; rw [hhb] at this; exact this : Calls Try.prog 18 #[.pointer (some ⟨cq, 0, none⟩), .int .i64 fr] (w9.drewN q) fun e w' => e = .returned (.bool hb) ∧ ∃ q', w' = (w9.drewN q).drewN q'))
            have nn1 : ((cn : Int) != (cn : Int)) = false := by simp
            have nn2 : (cn != cn) = false := by simp
            have nn3 : (hb != hb) = false := by simp
            clear hcn hhb
            have e1 := (HP9.out.gb.cell 1).trans rfl
            go_wp2_with fail
            go_quiet (first
              | (go_at_call 15; refine quiet_left (CF1.out _))
              | (go_at_call 16; refine quiet_left (CF2.out _))
              | (go_at_call 17; refine quiet_drew (CH1.out _))
              | (go_at_call 18; refine quiet_drew (CH2.out _)))
            go_wp2
            go_roundw
            case rel => exact ⟨i + 1, _, _, T, by go_num, by omega, by rw [HL.out]; omega, HTB.out, (HP9.out.drewN _).pl⟩
            case measure => simp [cntI]; omega
        · have j5 : decide ((kr : Int) < 2) = false := by simp; omega
          have j5' : decide (kr < 2) = false := by simp; omega
          obtain ⟨r, S', hp, hq⟩ := give_dec fi n S hn X Y hX
          have CP := Lib.hid (hp _ _ _ _ HP4.out.pl.bd)
          have CQ := Lib.hid hq
          clear hp hq
          go_wp2_with fail
          refine CP.out.mono ?_; rintro e w5 ⟨rfl, ht9⟩
          obtain ⟨B5, hp5⟩ := HP4.out.p ht9
          have HP5 := Lib.hid hp5
          clear hp5 ht9 CP HP4 k2
          go_wp2_with fail
          refine (CQ.out _ _ _ _ HP5.out.pl.rf).mono ?_; rintro e w9 ⟨rfl, ht9⟩
          have HP9 := Lib.hid (HP5.out.q ht9)
          clear ht9 CQ HP5
          obtain ⟨cn, hcn⟩ : ∃ cn, cntS S' fi n = cn := ⟨_, rfl⟩
          obtain ⟨hb, hhb⟩ : ∃ hb, hasF S' fr = hb := ⟨_, rfl⟩
          have CF1 := Lib.hid (fun q => (by have := lfree (HP9.out.pl.bd.drewN q); rw [hcn] at this; exact this : Calls Try.prog 15 #[.pointer (some ⟨w.heap.size, 0, none⟩)] (w9.drewN q) fun e w' => e = .returned (.int .i64 (cn : Int)) ∧ w9.drewN q = w'))
          have CF2 := Lib.hid (fun q => (by have := rfree (HP9.out.pl.rf.drewN q) hn; rw [hcn] at this; exact this : Calls Try.prog 16 #[.pointer (some ⟨cq, 0, none⟩)] (w9.drewN q) fun e w' => e = .returned (.int .i64 (cn : Int)) ∧ w9.drewN q = w'))
          have CH1 := Lib.hid (fun q => (by have := lhas (HP9.out.pl.bd.drewN q) fr; rw [hhb] at this; exact this : Calls Try.prog 17 #[.pointer (some ⟨w.heap.size, 0, none⟩), .int .i64 fr] (w9.drewN q) fun e w' => e = .returned (.bool hb) ∧ ∃ q', w' = (w9.drewN q).drewN q'))
          have CH2 := Lib.hid (fun q => (by have := rhas (HP9.out.pl.rf.drewN q) fr HFB.out; rw [hhb] at this; exact this : Calls Try.prog 18 #[.pointer (some ⟨cq, 0, none⟩), .int .i64 fr] (w9.drewN q) fun e w' => e = .returned (.bool hb) ∧ ∃ q', w' = (w9.drewN q).drewN q'))
          have nn1 : ((cn : Int) != (cn : Int)) = false := by simp
          have nn2 : (cn != cn) = false := by simp
          have nn3 : (hb != hb) = false := by simp
          clear hcn hhb
          have e1 := (HP9.out.gb.cell 1).trans rfl
          go_wp2_with fail
          go_quiet (first
            | (go_at_call 15; refine quiet_left (CF1.out _))
            | (go_at_call 16; refine quiet_left (CF2.out _))
            | (go_at_call 17; refine quiet_drew (CH1.out _))
            | (go_at_call 18; refine quiet_drew (CH2.out _)))
          go_wp2
          go_roundw
          case rel => exact ⟨i + 1, _, _, T, by go_num, by omega, by rw [HL.out]; omega, HTB.out, (HP9.out.drewN _).pl⟩
          case measure => simp [cntI]; omega
    · have hlt' : m ≤ i ∨ (i < m ∧ 60 ≤ i) := by omega
      clear hlt
      rcases hlt' with h | ⟨h1, h2⟩
      · go_wp2_with fail
        refine (told_any _).mono ?_; rintro e w7 ⟨rfl, hb7⟩
        have HP7 := Lib.hid (HP.out.below hb7)
        clear hb7 HP
        go_wp2_with fail
        refine (lruns HP7.out.bd).mono ?_; rintro e w8 ⟨v8, us, rfl, hus, hown8, hb8⟩
        have HP8 := Lib.hid (HP7.out.below hb8)
        have HU := Lib.hid hus
        have HO8 := Lib.hid hown8
        obtain ⟨A8, c8, rfl, _⟩ := own_sl hown8
        clear hus hown8 hb8
        go_wp2_with fail
        refine (rruns HP8.out.rf hn).mono ?_; rintro e w9 ⟨v9, us', rfl, hus', hown9, hb9⟩
        obtain rfl := hus'.unique HU.out
        have HP9 := Lib.hid (HP8.out.below hb9)
        have HO9 := Lib.hid (own_below HO8.out hb9)
        obtain ⟨A9, c9, rfl, hc9⟩ := own_sl hown9
        have CR := runs_same A8 A9 c8 c9 us' w9 (own_prs HO9.out) hc9 (by
          have h1 := HU.out.sum (a := fi) (n := n) HP9.out.bd.rng
          have h2 := sumR_len us'
          have h3 := cntS_le S fi n
          omega) (fun ⟨f, o⟩ hx => by
          obtain ⟨m1, m2, m3⟩ := HP9.out.bd.mx ((HU.out.2 f o).1 hx)
          have := Bud.pow_pos o
          exact ⟨by show f ≤ 2097152; omega, m3⟩)
        clear hus' hown9 hb9 hc9 HP7
        go_wp2_with fail
        refine CR.mono ?_; rintro e w10 ⟨rfl, q9, rfl⟩
        have HB9 := Lib.hid (below_drewN HP9.out.be q9)
        clear CR
        go_wp2
        go_ret
        exact ⟨rfl, HB9.out⟩
      · go_wp2_with fail
        refine (told_any _).mono ?_; rintro e w7 ⟨rfl, hb7⟩
        have HP7 := Lib.hid (HP.out.below hb7)
        clear hb7 HP
        go_wp2_with fail
        refine (lruns HP7.out.bd).mono ?_; rintro e w8 ⟨v8, us, rfl, hus, hown8, hb8⟩
        have HP8 := Lib.hid (HP7.out.below hb8)
        have HU := Lib.hid hus
        have HO8 := Lib.hid hown8
        obtain ⟨A8, c8, rfl, _⟩ := own_sl hown8
        clear hus hown8 hb8
        go_wp2_with fail
        refine (rruns HP8.out.rf hn).mono ?_; rintro e w9 ⟨v9, us', rfl, hus', hown9, hb9⟩
        obtain rfl := hus'.unique HU.out
        have HP9 := Lib.hid (HP8.out.below hb9)
        have HO9 := Lib.hid (own_below HO8.out hb9)
        obtain ⟨A9, c9, rfl, hc9⟩ := own_sl hown9
        have CR := runs_same A8 A9 c8 c9 us' w9 (own_prs HO9.out) hc9 (by
          have h1 := HU.out.sum (a := fi) (n := n) HP9.out.bd.rng
          have h2 := sumR_len us'
          have h3 := cntS_le S fi n
          omega) (fun ⟨f, o⟩ hx => by
          obtain ⟨m1, m2, m3⟩ := HP9.out.bd.mx ((HU.out.2 f o).1 hx)
          have := Bud.pow_pos o
          exact ⟨by show f ≤ 2097152; omega, m3⟩)
        clear hus' hown9 hb9 hc9 HP7
        go_wp2_with fail
        refine CR.mono ?_; rintro e w10 ⟨rfl, q9, rfl⟩
        have HB9 := Lib.hid (below_drewN HP9.out.be q9)
        clear CR
        go_wp2
        go_ret
        exact ⟨rfl, HB9.out⟩
end Go.Proofs.Ytmmjkebhcihjlaa
