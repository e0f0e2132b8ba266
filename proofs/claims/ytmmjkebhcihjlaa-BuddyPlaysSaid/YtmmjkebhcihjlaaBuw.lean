/- Package buddy: Give, joined when the run is taken. -/
import Derived.Test.YtmmjkebhcihjlaaBug
namespace Go.Proofs.Ytmmjkebhcihjlaa
open Go.RowKit

theorem Bdy.drewN {w : World} {c base : Nat} {fi en fr : Int} {vs : Nat → Value} {R : Nat → List Int} {M : Nat → Nat → Prop} (h : Bdy w c base fi en fr vs R M) (q : Nat) : Bdy (w.drewN q) c base fi en fr vs R M := ⟨h.at_.drewN q, h.set, h.room⟩

/-- What holds at Give's label. -/
def JG (w : World) (c base f o : Nat) (fi en fr : Int) (vs : Nat → Value) (S : Nat → Bool) (a' : Act) (w' : World) : Prop :=
  ∃ (p g : Nat) (v1 : Nat → Value) (R1 : Nat → List Int), Bud.Giv S f o g p ∧ Bdy w' c base fi en fr v1 R1 (Bud.Lst S g p) ∧ Moved w vs v1 ∧ Only (BS c vs) w w' ∧ ∃ u6 u7 u8 u9 u10 u11 u12 u13 u14 u15 u16 u17 u18 u19 u20 u21 u22 u23 u24 u25 u26 u27 u28 u29 u30 u31 u32 u33 u34 u35 u36 u37 u38 u39 u40 u41 u42 u43 u44 u45 u46 u47 u48 u49 u50 u51 u52 u53 u54 u55 u56 u57 u58 u59 u60 u61 u62 u63 u64 u65 u66 u67 u68 u69 u70 u71 u72 u73 u74 u75 u76 u77 u78 u79 u80 u81, a' = { tmps := #[.pointer (some ⟨c, 0, none⟩), .int .i64 g, .int .i64 p, undef, undef, undef, u6, u7, u8, u9, u10, u11, u12, u13, u14, u15, u16, u17, u18, u19, u20, u21, u22, u23, u24, u25, u26, u27, u28, u29, u30, u31, u32, u33, u34, u35, u36, u37, u38, u39, u40, u41, u42, u43, u44, u45, u46, u47, u48, u49, u50, u51, u52, u53, u54, u55, u56, u57, u58, u59, u60, u61, u62, u63, u64, u65, u66, u67, u68, u69, u70, u71, u72, u73, u74, u75, u76, u77, u78, u79, u80, u81], defers := [] }

set_option maxRecDepth 100000 in
set_option maxHeartbeats 4000000 in
theorem bgive_ok (c base o f : Nat) (fi en fr : Int) (vs : Nat → Value) (R : Nat → List Int) (S : Nat → Bool) (w : World) (h : BudAt w c base fi en fr vs R) (hI : BInv S R) (hr : Rng S fi en) (ho : o < 10) (hal : f % 2 ^ o = 0) (h1 : fi ≤ f) (h2 : (f : Int) + 2 ^ o ≤ en) (hs : ∀ k, f ≤ k → k < f + 2 ^ o → S k = false) (hD : Bdy w c base fi en fr vs R (Bud.Mx S)) (hfr : -10000000 ≤ fr ∧ fr ≤ 10000000) :
    Calls Try.prog 13 #[.pointer (some ⟨c, 0, none⟩), .int .i64 f, .int .i64 o] w fun e w' => e = .returned (.int .i64 0) ∧ ∃ v1 R1, Bdy w' c base fi en (fr + 2 ^ o) v1 R1 (Bud.Mx (Bud.more S f o)) ∧ Moved w vs v1 ∧ Only (BS c vs) w w' := by
  have HB := Lib.hid h
  have d0 : w.cell? ⟨c, 0, none⟩ = some (.int .i64 fi) := h.blk.cell 0
  have d1 : w.cell? ⟨c, 1, none⟩ = some (.int .i64 en) := h.blk.cell 1
  have hlo := hr.lo
  have hhi := hr.hi
  obtain ⟨t, ht, ht2, ht3, ht4⟩ : ∃ t : Nat, (2 : Int) ^ o = (t : Int) ∧ t ≤ 512 ∧ t = 2 ^ o ∧ 0 < t := ⟨2 ^ o, by simp, by have := Bud.pow_le (show o ≤ 9 by omega); omega, rfl, Nat.two_pow_pos o⟩
  have hm : (f : Int) % (t : Int) = 0 := by
    rw [ht3]
    have e : (f : Int) % ((2 ^ o : Nat) : Int) = ((f % 2 ^ o : Nat) : Int) := (Int.natCast_emod f (2 ^ o)).symm
    rw [e, hal]; rfl
  have g1 : decide ((o : Int) < 0) = false := by simp
  have g2 : decide ((10 : Int) ≤ (o : Int)) = false := by simp; omega
  have g3 : decide ((f : Int) < fi) = false := by simp; omega
  have g4 : decide (en - (t : Int) < (f : Int)) = false := by rw [ht] at h2; simp; omega
  have HX := Lib.hid hs
  have HR := Lib.hid hr
  have HI := Lib.hid hI
  have HT := Lib.hid ht3
  have hal2 := Lib.hid hal
  have hr0 : (f : Int) < 2097152 := by rw [ht] at h2; omega
  clear h hI hr hs ht3 hal
  go_enter Try.func13, Try.ntmps13
  go_wp2_with fail
  refine wp_scope_jumps 0 (JG w c base f o fi en (fr + 2 ^ o) vs S) (fun a' _ => 10 - cntI (a'.tmps.getD 2 undef)) rfl ?_ ?_
  rotate_left
  · rintro a' w1 ⟨p, g, v1, R1, hgv, hbd, hmv, hon, u6, u7, u8, u9, u10, u11, u12, u13, u14, u15, u16, u17, u18, u19, u20, u21, u22, u23, u24, u25, u26, u27, u28, u29, u30, u31, u32, u33, u34, u35, u36, u37, u38, u39, u40, u41, u42, u43, u44, u45, u46, u47, u48, u49, u50, u51, u52, u53, u54, u55, u56, u57, u58, u59, u60, u61, u62, u63, u64, u65, u66, u67, u68, u69, u70, u71, u72, u73, u74, u75, u76, u77, u78, u79, u80, u81, rfl⟩
    have HGV := Lib.hid hgv
    have HD1 := Lib.hid hbd
    have HM1 := Lib.hid hmv
    have HO1 := Lib.hid hon
    have HN := HX
    have hf21 : f < 2097152 := by have := hr0; omega
    clear hgv hbd hmv hon
    have hp9 := HGV.out.le
    have hgf := HGV.out.lo
    obtain ⟨t2, hu, hu2, hu3, hu4⟩ : ∃ t2 : Nat, (2 : Int) ^ p = (t2 : Int) ∧ t2 ≤ 512 ∧ t2 = 2 ^ p ∧ 0 < t2 := ⟨2 ^ p, by simp, by have := Bud.pow_le (show p ≤ 9 by omega); omega, rfl, Nat.two_pow_pos p⟩
    have hbx := bud_xor HGV.out.al (by rw [← hu3]; omega) (show p ≤ 62 by omega)
    rw [← hu3] at hbx
    obtain ⟨hb1, hb2⟩ := hbx
    clear hu3
    have hp10 : p < 10 := by omega
    have hgm : g < 2097152 := by omega
    have hnl : ¬ Bud.Lst S g p g p := fun hc => hc.2 ⟨Nat.le_refl _, Nat.le_refl _⟩
    have CP := Lib.hid (fun W v R (hW : Bdy W c base fi en (fr + 2 ^ o) v R (Bud.Lst S g p)) => bput_any c base p fi en (fr + 2 ^ o) g v R W hW.at_ hp10 (hW.set.srt p hp10) (Nat.le_trans (hW.set.len hp10) (by omega)) hW.room)
    by_cases hlast : p < 9
    · have g7 : decide ((p : Int) + 1 < 10) = true := by simp; omega
      obtain ⟨b, hbb⟩ : ∃ b, Bud.bud g p = b := ⟨_, rfl⟩
      obtain ⟨a, haa⟩ : ∃ a, Bud.up g p = a := ⟨_, rfl⟩
      rw [hbb] at hb1
      rw [haa] at hb2
      have HBB := Lib.hid hbb
      have HAA := Lib.hid haa
      clear hbb haa
      by_cases hl : Bud.Lst S g p b p
      · have hin : (b : Int) ∈ R1 p := (HD1.out.set.mem p hp10 _).2 ⟨b, rfl, hl⟩
        have CY := Lib.hid (bcut_yes c base p fi en (fr + 2 ^ o) b _ _ _ HD1.out.at_ hp10 (HD1.out.set.srt p hp10) (Nat.le_trans (HD1.out.set.len hp10) (by omega)) hin)
        have HJ := Lib.hid (HGV.out.join HN.out hlast (by rw [HBB.out]; exact hl))
        have HL := Lib.hid hl
        clear hin hl
        have q0 : ¬ ((p : Int) < 0) := by omega
        have q1 : (p : Int) < 64 := by omega
        have q2 : decide ((p : Int) < 0) = false := by simp
        go_wp2_with fail
        refine CY.out.mono ?_
        rintro e w2 ⟨rfl, v2, hb2', ho2, hf2⟩
        have HD2 := Lib.hid (show Bdy w2 c base fi en (fr + 2 ^ o) _ _ (Bud.Lst S (Bud.up g p) (p + 1)) from ⟨hb2', (HD1.out.set.cut hp10 HL.out).congr (fun x y => by rw [HJ.out.2 x y, HBB.out]), Nat.le_trans HD1.out.room ho2.size⟩)
        rw [HAA.out] at HD2
        have HG2 := Lib.hid HJ.out.1
        rw [HAA.out] at HG2
        have HM2 := Lib.hid (moved_put HM1.out HO1.out.size hf2 hp10)
        have HO2 := Lib.hid (moved_only HM1.out HO1.out ho2)
        clear hb2' ho2 hf2 CY CP
        go_wp2
        go_step3
        exact ⟨rfl, ⟨p + 1, a, _, _, HG2.out, HD2.out, HM2.out, HO2.out, _, _, _, _, _, _, _, _, _, _, _, _, _, _, _, _, _, _, _, _, _, _, _, _, _, _, _, _, _, _, _, _, _, _, _, _, _, _, _, _, _, _, _, _, _, _, _, _, _, _, _, _, _, _, _, _, _, _, _, _, _, _, _, _, _, _, _, _, _, _, _, _, _, _, _, _, rfl⟩, by simp [cntI]; omega⟩
      · have hni : (b : Int) ∉ R1 p := fun hx => by
          obtain ⟨b', e, hm⟩ := (HD1.out.set.mem p hp10 _).1 hx
          have : b = b' := by omega
          exact hl (this ▸ hm)
        have HNB := Lib.hid (show p < 9 → ¬ Bud.Lst S g p (Bud.bud g p) p from fun _ => by rw [HBB.out]; exact hl)
        have CN := Lib.hid (bcut_no c base p fi en (fr + 2 ^ o) b _ _ _ HD1.out.at_ hp10 (HD1.out.set.srt p hp10) (Nat.le_trans (HD1.out.set.len hp10) (by omega)) hni)
        clear hl hni
        go_wp2_with fail
        refine CN.out.mono ?_
        rintro e w2 ⟨rfl, q9, rfl⟩
        have HDQ := Lib.hid (HD1.out.drewN q9)
        have HOQ := Lib.hid (HO1.out.drewN q9)
        go_wp2_with fail
        refine (CP.out _ _ _ HDQ.out).mono ?_
        rintro e w3 ⟨rfl, v3, hb3, ho3, hf3⟩
        have HD3 := Lib.hid (show Bdy w3 c base fi en (fr + 2 ^ o) _ _ (Bud.Mx (Bud.more S f o)) from ⟨hb3, (HDQ.out.set.put hp10 hgm hnl).congr (fun x y => HGV.out.done HN.out HNB.out x y), Nat.le_trans HDQ.out.room ho3.size⟩)
        have HM3 := Lib.hid (moved_put HM1.out HOQ.out.size hf3 hp10)
        have HO3 := Lib.hid (moved_only HM1.out HOQ.out ho3)
        clear hb3 ho3 hf3
        go_wp2
        simp only [Exit.jump]
        go_ret
        exact ⟨rfl, _, _, HD3.out, HM3.out, HO3.out⟩
    · have g7 : decide ((p : Int) + 1 < 10) = false := by simp; omega
      have HNB := Lib.hid (show p < 9 → ¬ Bud.Lst S g p (Bud.bud g p) p from fun h => absurd h hlast)
      have HDQ := HD1
      have HOQ := HO1
      go_wp2_with fail
      refine (CP.out _ _ _ HDQ.out).mono ?_
      rintro e w3 ⟨rfl, v3, hb3, ho3, hf3⟩
      have HD3 := Lib.hid (show Bdy w3 c base fi en (fr + 2 ^ o) _ _ (Bud.Mx (Bud.more S f o)) from ⟨hb3, (HDQ.out.set.put hp10 hgm hnl).congr (fun x y => HGV.out.done HN.out HNB.out x y), Nat.le_trans HDQ.out.room ho3.size⟩)
      have HM3 := Lib.hid (moved_put HM1.out HOQ.out.size hf3 hp10)
      have HO3 := Lib.hid (moved_only HM1.out HOQ.out ho3)
      clear hb3 ho3 hf3
      go_wp2
      simp only [Exit.jump]
      go_ret
      exact ⟨rfl, _, _, HD3.out, HM3.out, HO3.out⟩
  go_wp2_with fail
  go_quiet (fail)
  go_wp2_with fail
  obtain ⟨wo, hwo⟩ : ∃ wo : World, wo = w.drewN nq := ⟨_, rfl⟩
  have HBW := Lib.hid (HB.out.drewN nq)
  rw [← hwo] at HBW ⊢
  have HWO := Lib.hid hwo
  clear hwo d0 d1
  rw [hm]
  go_loopw [42] (GvR wo S f t) (fun v _ => t - cntI v)
  case atStart => exact ⟨0, rfl, Nat.zero_le _, fun j hj => by omega, 0, rfl⟩
  case round =>
    obtain ⟨i, rfl, hit, hfree, q, rfl⟩ := hrel
    have HFR := Lib.hid hfree
    clear hfree
    by_cases hlt : i < t
    · have g5 : decide ((i : Int) < (t : Int)) = true := by simp; omega
      have g6 : decide (i < t) = true := by simp; omega
      obtain ⟨y, hy, hy2⟩ : ∃ y : Nat, (f : Int) + (i : Int) = (y : Int) ∧ y = f + i := ⟨f + i, by omega, rfl⟩
      have HY := Lib.hid hy2
      have HH := Lib.hid (bhas_any c base fi en fr (y : Int) vs R S _ (HBW.out.drewN q) HI.out HR.out)
      clear hy2
      cases hS : S y
      · have HE := Lib.hid (show hasF S (y : Int) = false by unfold hasF; rw [Int.toNat_natCast, hS]; simp)
        have HN := Lib.hid (show ∀ j, j < i + 1 → S (f + j) = false from fun j hj => by
          by_cases e : j = i
          · rw [e, ← HY.out]; exact hS
          · exact HFR.out j (by omega))
        clear hS
        go_wp2_with fail
        refine HH.out.mono ?_
        rintro e w1 ⟨rfl, q2, rfl⟩
        rw [HE.out]
        go_wp2
        go_roundw
        case rel => exact ⟨i + 1, by go_num, by omega, HN.out, _, rfl⟩
        case measure => simp [cntI]; omega
      · exfalso
        have := HX.out y (by have := HY.out; omega) (by have := HY.out; have := HT.out; omega)
        rw [hS] at this; cases this
    · obtain rfl : i = t := by omega
      have HD9 := Lib.hid (show Bdy (wo.drewN q) c base fi en fr vs R (Bud.Mx S) from ⟨HBW.out.drewN q, hD.set, by rw [HWO.out]; exact hD.room⟩)
      have HO9 := Lib.hid (show Below w.heap.size w (wo.drewN q) from by rw [HWO.out]; exact below_drewN (below_drewN (Below.refl _ _) nq) q)
      generalize wo.drewN q = w9 at *
      have c12 : w9.cell? ⟨c, 12, none⟩ = some (.int .i64 fr) := HD9.out.at_.blk.cell 12
      have z12 := HD9.out.at_.frozen 12
      obtain ⟨hfr1, hfr2⟩ := hfr
      go_wp2_with fail
      go_region
      all_goals go_wp2_with fail
      go_step3
      have HGV := Lib.hid (Bud.Giv.start (S := S) hal2.out (show o ≤ 9 by omega))
      have HN := HX
      have hf21 : f < 2097152 := by omega
      have HD1 := Lib.hid (show Bdy (w9.setCell ⟨c, 12, none⟩ (.int .i64 (fr + (i : Int)))).drew c base fi en (fr + 2 ^ o) vs R (Bud.Lst S f o) from by
        rw [ht]
        exact Bdy.free ⟨HD9.out.at_, HD9.out.set.congr (fun g p => Bud.lst_start HX.out g p), HD9.out.room⟩)
      have HM1 := Lib.hid (Moved.refl w vs)
      have HO1 := Lib.hid (show Only (BS c vs) w (w9.setCell ⟨c, 12, none⟩ (.int .i64 (fr + (i : Int)))).drew from ((only_fresh HO9.out).setCell (p := ⟨c, 12, none⟩) (.inl (.inl rfl)) _).drew)
      clear ht c12 z12 HD9 HO9 HBW HB
      generalize (w9.setCell ⟨c, 12, none⟩ (.int .i64 (fr + (i : Int)))).drew = w1 at *
      have hp9 := HGV.out.le
      have hgf := HGV.out.lo
      obtain ⟨t2, hu, hu2, hu3, hu4⟩ : ∃ t2 : Nat, (2 : Int) ^ o = (t2 : Int) ∧ t2 ≤ 512 ∧ t2 = 2 ^ o ∧ 0 < t2 := ⟨2 ^ o, by simp, by have := Bud.pow_le (show o ≤ 9 by omega); omega, rfl, Nat.two_pow_pos o⟩
      have hbx := bud_xor HGV.out.al (by rw [← hu3]; omega) (show o ≤ 62 by omega)
      rw [← hu3] at hbx
      obtain ⟨hb1, hb2⟩ := hbx
      clear hu3
      have hp10 : o < 10 := by omega
      have hgm : f < 2097152 := by omega
      have hnl : ¬ Bud.Lst S f o f o := fun hc => hc.2 ⟨Nat.le_refl _, Nat.le_refl _⟩
      have CP := Lib.hid (fun W v R (hW : Bdy W c base fi en (fr + 2 ^ o) v R (Bud.Lst S f o)) => bput_any c base o fi en (fr + 2 ^ o) f v R W hW.at_ hp10 (hW.set.srt o hp10) (Nat.le_trans (hW.set.len hp10) (by omega)) hW.room)
      by_cases hlast : o < 9
      · have g7 : decide ((o : Int) + 1 < 10) = true := by simp; omega
        obtain ⟨b, hbb⟩ : ∃ b, Bud.bud f o = b := ⟨_, rfl⟩
        obtain ⟨a, haa⟩ : ∃ a, Bud.up f o = a := ⟨_, rfl⟩
        rw [hbb] at hb1
        rw [haa] at hb2
        have HBB := Lib.hid hbb
        have HAA := Lib.hid haa
        clear hbb haa
        by_cases hl : Bud.Lst S f o b o
        · have hin : (b : Int) ∈ R o := (HD1.out.set.mem o hp10 _).2 ⟨b, rfl, hl⟩
          have CY := Lib.hid (bcut_yes c base o fi en (fr + 2 ^ o) b _ _ _ HD1.out.at_ hp10 (HD1.out.set.srt o hp10) (Nat.le_trans (HD1.out.set.len hp10) (by omega)) hin)
          have HJ := Lib.hid (HGV.out.join HN.out hlast (by rw [HBB.out]; exact hl))
          have HL := Lib.hid hl
          clear hin hl
          have q0 : ¬ ((o : Int) < 0) := by omega
          have q1 : (o : Int) < 64 := by omega
          have q2 : decide ((o : Int) < 0) = false := by simp
          go_wp2_with fail
          refine CY.out.mono ?_
          rintro e w2 ⟨rfl, v2, hb2', ho2, hf2⟩
          have HD2 := Lib.hid (show Bdy w2 c base fi en (fr + 2 ^ o) _ _ (Bud.Lst S (Bud.up f o) (o + 1)) from ⟨hb2', (HD1.out.set.cut hp10 HL.out).congr (fun x y => by rw [HJ.out.2 x y, HBB.out]), Nat.le_trans HD1.out.room ho2.size⟩)
          rw [HAA.out] at HD2
          have HG2 := Lib.hid HJ.out.1
          rw [HAA.out] at HG2
          have HM2 := Lib.hid (moved_put HM1.out HO1.out.size hf2 hp10)
          have HO2 := Lib.hid (moved_only HM1.out HO1.out ho2)
          clear hb2' ho2 hf2 CY CP
          go_wp2
          go_step3
          exact ⟨rfl, ⟨o + 1, a, _, _, HG2.out, HD2.out, HM2.out, HO2.out, _, _, _, _, _, _, _, _, _, _, _, _, _, _, _, _, _, _, _, _, _, _, _, _, _, _, _, _, _, _, _, _, _, _, _, _, _, _, _, _, _, _, _, _, _, _, _, _, _, _, _, _, _, _, _, _, _, _, _, _, _, _, _, _, _, _, _, _, _, _, _, _, _, _, _, _, rfl⟩⟩
        · have hni : (b : Int) ∉ R o := fun hx => by
            obtain ⟨b', e, hm⟩ := (HD1.out.set.mem o hp10 _).1 hx
            have : b = b' := by omega
            exact hl (this ▸ hm)
          have HNB := Lib.hid (show o < 9 → ¬ Bud.Lst S f o (Bud.bud f o) o from fun _ => by rw [HBB.out]; exact hl)
          have CN := Lib.hid (bcut_no c base o fi en (fr + 2 ^ o) b _ _ _ HD1.out.at_ hp10 (HD1.out.set.srt o hp10) (Nat.le_trans (HD1.out.set.len hp10) (by omega)) hni)
          clear hl hni
          go_wp2_with fail
          refine CN.out.mono ?_
          rintro e w2 ⟨rfl, q9, rfl⟩
          have HDQ := Lib.hid (HD1.out.drewN q9)
          have HOQ := Lib.hid (HO1.out.drewN q9)
          go_wp2_with fail
          refine (CP.out _ _ _ HDQ.out).mono ?_
          rintro e w3 ⟨rfl, v3, hb3, ho3, hf3⟩
          have HD3 := Lib.hid (show Bdy w3 c base fi en (fr + 2 ^ o) _ _ (Bud.Mx (Bud.more S f o)) from ⟨hb3, (HDQ.out.set.put hp10 hgm hnl).congr (fun x y => HGV.out.done HN.out HNB.out x y), Nat.le_trans HDQ.out.room ho3.size⟩)
          have HM3 := Lib.hid (moved_put HM1.out HOQ.out.size hf3 hp10)
          have HO3 := Lib.hid (moved_only HM1.out HOQ.out ho3)
          clear hb3 ho3 hf3
          go_wp2
          simp only [Exit.jump]
          go_ret
          exact ⟨rfl, _, _, HD3.out, HM3.out, HO3.out⟩
      · have g7 : decide ((o : Int) + 1 < 10) = false := by simp; omega
        have HNB := Lib.hid (show o < 9 → ¬ Bud.Lst S f o (Bud.bud f o) o from fun h => absurd h hlast)
        have HDQ := HD1
        have HOQ := HO1
        go_wp2_with fail
        refine (CP.out _ _ _ HDQ.out).mono ?_
        rintro e w3 ⟨rfl, v3, hb3, ho3, hf3⟩
        have HD3 := Lib.hid (show Bdy w3 c base fi en (fr + 2 ^ o) _ _ (Bud.Mx (Bud.more S f o)) from ⟨hb3, (HDQ.out.set.put hp10 hgm hnl).congr (fun x y => HGV.out.done HN.out HNB.out x y), Nat.le_trans HDQ.out.room ho3.size⟩)
        have HM3 := Lib.hid (moved_put HM1.out HOQ.out.size hf3 hp10)
        have HO3 := Lib.hid (moved_only HM1.out HOQ.out ho3)
        clear hb3 ho3 hf3
        go_wp2
        simp only [Exit.jump]
        go_ret
        exact ⟨rfl, _, _, HD3.out, HM3.out, HO3.out⟩
end Go.Proofs.Ytmmjkebhcihjlaa
