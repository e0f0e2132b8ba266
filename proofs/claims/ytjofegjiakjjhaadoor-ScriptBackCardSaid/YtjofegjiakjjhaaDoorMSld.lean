import Derived.Test.YtjofegjiakjjhaaDoorMSld0
import Derived.Test.YtjofegjiakjjhaaDoorMSlc
import Derived.Test.YtjofegjiakjjhaaDoorMSsg
import Derived.Test.YtjofegjiakjjhaaDoorMSsh
/- Script, the law ScriptBack. -/
namespace Go.Proofs.YtjofegjiakjjhaaDoor
open Go.RowKit Go.Lib Mf

theorem LsR.fa {w : World} {B : Nat} {l : List (St × Value)} {v : Value} (h : LsR w B l v) : ∀ p ∈ l, p.1.ok ∧ p.1.fails.length ≤ 1000000 := fun p hp => ⟨(h.ok p hp).1, by have := (h.ok p hp).2; omega⟩
/-- What came in: each step fits, its Fails are sliced well. -/
def Fit (l : List (St × Value)) : Prop := ∀ p ∈ l, p.1.ok ∧ ∃ FA Fc, p.2 = .slice FA p.1.fails.length Fc ∧ p.1.fails.length ≤ Fc ∧ Fc ≤ maxLen
def BkR (W : World) (l : List (St × Value)) (v5 v6 : Value) (wr : World) : Prop := ∃ (i : Nat) (L : List (St × Value)), v6 = .int .i64 i ∧ i ≤ l.length ∧ i ≤ 30 ∧ LsR wr W.heap.size L v5 ∧ L.length = i ∧ L.map (·.1) = ((l.take i).map (·.1)).map nearS ∧ Below W.heap.size W wr
set_option maxRecDepth 20000 in
set_option maxHeartbeats 8000000 in
theorem scriptBack_walk {W : World} (A0 : Option Addr) (c0 : Nat) (l : List (St × Value)) (hl : StsR W W.heap.size A0 l) (hlc : l.length ≤ c0) (hcm : c0 ≤ maxLen) (hfit : Fit l) (t : Bs) (he : Env W) :
    Calls Tryd.prog 7 #[.slice A0 l.length c0, bv t] W fun e W' => e = .returned (.bool true) ∧ Below W.heap.size W W' := by
  obtain ⟨i0, hi0, hz0', hz1, hz2⟩ := info_parts infoSt
  obtain ⟨n, hn⟩ : ∃ n, l.length = n := ⟨_, rfl⟩
  have HN := Lib.hid hn
  have HL := Lib.hid hl
  have HFT := Lib.hid hfit
  have HE := Lib.hid he
  have hnm : n ≤ maxLen := by omega
  rw [hn]
  clear hn hl hfit he hlc hcm
  go_enter Tryd.func7, Tryd.ntmps7
  go_wp2_with fail
  go_loopw [5, 6] (BkR W l) (fun _ v _ => 30 - cntZ v)
  case atStart => exact ⟨0, [], rfl, Nat.zero_le _, Nat.zero_le _, LsR.nil _ _, rfl, rfl, Below.refl _ _⟩
  case round =>
    obtain ⟨i, L, rfl, hi, hi30, hL, hLi, hLm, hbe⟩ := hrel
    have HLS := Lib.hid hL
    have HLI := Lib.hid hLi
    have HLM := Lib.hid hLm
    have HBE := Lib.hid hbe
    have HEW := Lib.hid (HE.out.below hbe)
    rw [HN.out] at hi
    clear hL hLi hLm hbe
    by_cases hin : i < n ∧ i < 30
    · obtain ⟨hin, h30⟩ := hin
      have g1 : decide ((i : Int) < (n : Int)) = true := decide_eq_true (by omega)
      have g1' : decide (i < n) = true := decide_eq_true hin
      have g2 : decide ((i : Int) < 30) = true := decide_eq_true (by omega)
      have g2' : decide (i < 30) = true := decide_eq_true h30
      obtain ⟨⟨s, F⟩, hs⟩ : ∃ p, l[i]? = some p := ⟨_, List.getElem?_eq_getElem (by rw [HN.out]; exact hin)⟩
      obtain ⟨ad, rfl, hab, hfa, hca⟩ := (HL.out.below HBE.out).cel hs
      obtain ⟨hok, FA0, Fc0, hF, hf1, hf2⟩ := HFT.out _ (List.mem_of_getElem? hs)
      dsimp only at hok hF hf1 hf2
      subst hF
      obtain ⟨c0, c1, c2, c3, c4, c5, c6, c7, c8, c9, c10, c11⟩ := hca
      have HS := Lib.hid hs
      have HOK := Lib.hid hok
      have HNR := Lib.hid (rnear s hok FA0 Fc0 hf1 (Nat.le_trans hf1 hf2) wr (by
        obtain ⟨A, c, e, hr⟩ := hfa
        injection e with e1 e2 e3
        subst e1
        exact hr.more HBE.out.size))
      clear hs hok hf1 hf2 hfa
      go_wp2_with fail
      refine HNR.out.mono ?_; rintro e w2 ⟨F', rfl, hW, hb⟩
      obtain ⟨FA, Fc, rfl⟩ := hW.form
      obtain ⟨nr, hnr⟩ : ∃ x, nearS s = x := ⟨_, rfl⟩
      have HNS := Lib.hid hnr
      have hno := near_ok HOK.out
      obtain ⟨x, hx1, hx2⟩ := near_line s
      rw [hnr] at hW hno hx1 hx2 ⊢
      have HW := Lib.hid hW
      have HNO := Lib.hid hno
      have HX1 := Lib.hid hx1
      have HX2 := Lib.hid hx2
      have HXL := Lib.hid (isT_len hno.1.towf hx2)
      clear c0 c1 c2 c3 c4 c5 c6 c7 c8 c9 c10 c11 hnr hno hx1 hx2 hW HNR
      go_upto_region 6 with fail
      generalize hwa : w2.alloc _ = wa
      have HB7 := Lib.hid (show Blk wa w2.heap.size 25 (stC nr (.slice FA nr.fails.length Fc)) from by rw [← hwa]; exact Blk.new _ _ _)
      have hbx : Below w2.heap.size w2 wa := by rw [← hwa]; exact (Below.refl _ _).alloc (Nat.le_refl _) _
      have HB2 := Lib.hid (hb.trans (hbx.mono hb.size))
      replace HW := Lib.hid (own_below HW.out hbx)
      clear hwa hbx hb
      generalize w2.heap.size = b7 at *
      have cs7 := stC_cells HB7.out
      go_wp2_with fail
      refine (ltext nr HNO.out.1 _ (HEW.out.below HB2.out) ⟨FA, Fc, rfl, Reads.of_own HW.out⟩ (by have := HNO.out.2; omega)).mono ?_; rintro e w3 ⟨rfl, hb⟩
      rw [HX1.out]
      dsimp only
      replace HB7 := Lib.hid (HB7.out.below hb HB7.out.lt)
      replace HB2 := Lib.hid (HB2.out.trans (hb.mono HB2.out.size))
      replace HW := Lib.hid (own_below HW.out hb)
      clear hb cs7
      go_wp2_with fail
      refine (lparse x (by have := HXL.out; have := HNO.out.2; omega) (HEW.out.below HB2.out)).mono ?_; rintro e w4 ⟨s', F2, c', rfl, hp, hok', hW2, hfl2, hb⟩
      obtain ⟨rfl, rfl⟩ := parse_line HNO.out.1.towf HNO.out.2 HX2.out hp
      obtain ⟨GA, Gc, rfl⟩ := hW2.form
      replace HB7 := Lib.hid (HB7.out.below hb HB7.out.lt)
      replace HB2 := Lib.hid (HB2.out.trans (hb.mono HB2.out.size))
      replace HW := Lib.hid (own_below HW.out hb)
      have HW2 := Lib.hid hW2
      clear hb hp hok' hW2 hfl2
      go_upto_region 8 with fail
      generalize hwa : w4.alloc _ = wb
      have HB10 := Lib.hid (show Blk wb w4.heap.size 25 (stC s' (.slice GA s'.fails.length Gc)) from by rw [← hwa]; exact Blk.new _ _ _)
      have hbx : Below w4.heap.size w4 wb := by rw [← hwa]; exact (Below.refl _ _).alloc (Nat.le_refl _) _
      replace HB7 := Lib.hid (HB7.out.below hbx HB7.out.lt)
      replace HB2 := Lib.hid (HB2.out.trans (hbx.mono HB2.out.size))
      replace HW := Lib.hid (own_below HW.out hbx)
      replace HW2 := Lib.hid (own_below HW2.out hbx)
      clear hwa hbx
      generalize w4.heap.size = b10 at *
      have cs7 := stC_cells HB7.out
      have cs10 := stC_cells HB10.out
      go_wp2_with fail
      refine (rsame s' s' _ _ _ ⟨FA, Fc, rfl, Reads.of_own HW.out⟩ ⟨GA, Gc, rfl, Reads.of_own HW2.out⟩ (by have := HNO.out.2; omega) (by have := HNO.out.2; omega)).mono ?_; rintro e w5 ⟨rfl, hb⟩
      rw [(sameS_iff s' s').2 rfl]
      replace HB7 := Lib.hid (HB7.out.below hb HB7.out.lt)
      replace HB2 := Lib.hid (HB2.out.trans (hb.mono HB2.out.size))
      replace HW := Lib.hid (own_below HW.out hb)
      clear hb cs7 cs10
      have cs7 := stC_cells HB7.out
      have HCB := Lib.hid (show Blk (w5.alloc (.cells (stC s' (.slice FA s'.fails.length Fc)) 25)) w5.heap.size 25 (stC s' (.slice FA s'.fails.length Fc)) from Blk.new _ _ _)
      have HB3 := Lib.hid (HB2.out.alloc HB2.out.size (.cells (stC s' (.slice FA s'.fails.length Fc)) 25))
      have HW3 := Lib.hid (HW.out.alloc (.cells (stC s' (.slice FA s'.fails.length Fc)) 25))
      have HL3 := Lib.hid (own_below HLS.out.row HB3.out)
      have HSZ := Lib.hid (show W.heap.size ≤ w5.heap.size + 1 from by have := HBE.out.size; have := HB2.out.size; omega)
      have hll : L.length ≤ 30 := by rw [HLI.out]; omega
      go_wp2_with (first
        | (at_builtin; refine wpList_append_any _ rfl (.tmp 58) (.tmp 60) _ rfl W.heap.size 25 i0 _ 12 112 Tryd.underlying28 hi0 hz0' hz1 hz2 rfl (by omega) _ _ _ rfl HL3.out _ (some ⟨w5.heap.size, 0, none⟩) 1 1 (stL (s', .slice FA s'.fails.length Fc)) rfl (reads_one12 HCB.out) (stL_one _ _ _ _) (by unfold maxLen; omega) (by omega) (by have := HSZ.out; simp; omega) ?_; intro v2 w6 hown2 hg4 hat4)
        | fail)
      refine ⟨⟨i + 1, L ++ [(s', .slice FA s'.fails.length Fc)], by go_num, by rw [HN.out]; omega, by omega, HLS.out.more HB3.out HW3.out HBE.out.size ⟨HNO.out.1, by have := HNO.out.2; omega⟩ hown2 hg4 hat4, by rw [List.length_append, List.length_singleton, HLI.out], ?_, ?_⟩, by simp [cntZ]; omega⟩
      · obtain ⟨hl9, e9⟩ := List.getElem?_eq_some_iff.1 HS.out
        rw [List.take_succ_eq_append_getElem hl9, List.map_append, List.map_append, List.map_append, HLM.out, e9]
        show _ ++ [s'] = _ ++ [nearS s]
        rw [HNS.out]
      · exact (HBE.out.trans (HB3.out.mono HBE.out.size)).grown hg4 (by have := HSZ.out; simp; omega) (fun g hg => (HLS.out.row.lt g hg).1)
    · have HLN := Lib.hid (show Lns (L.map (·.1)) from by
        rw [HLM.out]
        refine Lns.near fun s hs => ?_
        obtain ⟨p, hp, rfl⟩ := List.mem_map.1 hs
        exact (HFT.out p (List.mem_of_mem_take hp)).1)
      have hll : L.length ≤ 30 := by rw [HLI.out]; exact hi30
      have HPR := Lib.hid (print_lns HLN.out (by rw [List.length_map]; omega))
      have HRB := Lib.hid (read_back HLN.out (by rw [List.length_map]; omega))
      have hpl := prA_len HLN.out
      rw [List.length_map] at hpl
      obtain ⟨lA, lc, rfl, hst⟩ := HLS.out.sts
      have HPI := Lib.hid (lprint L lA lc HEW.out hst (fun p hp => (HLS.out.fa p hp).1) (fun p hp => (HLS.out.fa p hp).2))
      obtain ⟨k, hk⟩ : ∃ k, L.length = k := ⟨_, rfl⟩
      have HK := Lib.hid hk
      obtain ⟨m, hm⟩ : ∃ m, L.map (·.1) = m := ⟨_, rfl⟩
      have HM := Lib.hid hm
      rw [hm] at HPI HPR HRB hpl
      rw [hk] at HPI hpl
      obtain ⟨pa, hpa⟩ : ∃ x, prA m = x := ⟨_, rfl⟩
      rw [hpa] at HPR HRB hpl
      have hkk : k ≤ 30 := by rw [← hk]; exact hll
      obtain ⟨z, hz⟩ : ∃ z : Bs, [35, 32, 97, 10, 10] ++ pa = z := ⟨_, rfl⟩
      rw [hz] at HRB
      have hcat : (⟨#[35, 32, 97, 10, 10]⟩ : ByteArray) ++ ⟨pa.toArray⟩ = ⟨z.toArray⟩ := by rw [← hz]; exact (bv_app [35, 32, 97, 10, 10] pa).symm
      have l3 : ¬ 9223372036854775807 < 5 + pa.length := by omega
      have HPL := Lib.hid (show z.length ≤ 10000 by rw [← hz, List.length_append]; simp; omega)
      rw [hk]
      clear hst hk hm hpa hpl hll hi30 hz
      have g12 : (decide ((i : Int) < (n : Int)) = false ∧ decide (i < n) = false) ∨ (decide ((i : Int) < (n : Int)) = true ∧ decide (i < n) = true ∧ decide ((i : Int) < 30) = false ∧ decide (i < 30) = false) := by
        by_cases h1 : i < n
        · exact .inr ⟨decide_eq_true (by omega), decide_eq_true h1, decide_eq_false (fun h => hin ⟨h1, by omega⟩), decide_eq_false (fun h => hin ⟨h1, h⟩)⟩
        · exact .inl ⟨decide_eq_false (by omega), decide_eq_false h1⟩
      clear hin hi
      rcases g12 with ⟨g1, g1'⟩ | ⟨g1, g1', g2, g2'⟩
      · go_wp2_with fail
        refine HPI.out.mono ?_; rintro e w2 ⟨rfl, hb⟩
        rw [HPR.out]
        dsimp only
        have HB2 := Lib.hid hb
        clear hb
        go_wp2_with fail
        refine (lread z (by have := HPL.out; omega) (HEW.out.below HB2.out)).mono ?_; rintro e w3 ⟨l2, v2, c2, k2, rfl, hr, hL2, hb⟩
        rw [HRB.out] at hr
        injection hr with h1 h2
        injection h2 with h2 h3
        subst h2 h3
        obtain ⟨A2, cc2, rfl, hst2⟩ := hL2.sts
        have hk2 : l2.length = k := by
          have := congrArg List.length h1
          rw [← HM.out, List.length_map, List.length_map, HK.out] at this
          exact this.symm
        replace HB2 := Lib.hid (HB2.out.trans (hb.mono HB2.out.size))
        obtain ⟨lA', lc', e9, hst⟩ := (HLS.out.below HB2.out).sts
        have HAL := Lib.hid (rall L l2 lA A2 lc cc2 w3 (by
          injection e9 with e9 _ _
          rw [e9]; exact hst) hst2 (by rw [HK.out]; omega) (by rw [hk2]; omega) (fun p hp => (HLS.out.fa p hp).2) (fun p hp => (hL2.fa p hp).2))
        rw [HK.out, hk2, HM.out, ← h1, decide_eq_true (rfl : m = m)] at HAL
        rw [hk2]
        clear hb e9 hst hst2 hL2 h1 hk2 hcat
        go_wp2_with fail
        refine HAL.out.mono ?_; rintro e w4 ⟨rfl, hb⟩
        replace HB2 := Lib.hid (HB2.out.trans (hb.mono HB2.out.size))
        clear hb HAL
        obtain ⟨q, hq⟩ : ∃ q, t.length = q := ⟨_, rfl⟩
        have HQ := Lib.hid hq
        by_cases hbig : 1200 < q
        · have q1 : decide ((q : Int) > 1200) = true := decide_eq_true (by omega)
          have q1' : decide (1200 < q) = true := decide_eq_true hbig
          go_wp2_with fail
          refine (told_any (HEW.out.below HB2.out)).mono ?_; rintro e w5 ⟨rfl, hb⟩
          go_wp2
          go_ret
          exact ⟨rfl, HBE.out.trans ((HB2.out.trans (hb.mono HB2.out.size)).mono HBE.out.size)⟩
        · have q1 : decide ((q : Int) > 1200) = false := decide_eq_false (by omega)
          have q1' : decide (1200 < q) = false := decide_eq_false hbig
          go_wp2_with fail
          refine (lparse t (by have := HQ.out; omega) (HEW.out.below HB2.out)).mono ?_; rintro e w5 ⟨s, F, c5, rfl, hp, hok, hW, hfl, hb⟩
          obtain ⟨FA, Fc, rfl⟩ := hW.form
          have HW := Lib.hid hW
          have HP := Lib.hid hp
          have HSO := Lib.hid hok
          have HFL := Lib.hid hfl
          replace HB2 := Lib.hid (HB2.out.trans (hb.mono HB2.out.size))
          clear hb hp hok hW hfl
          go_upto_region 18 with fail
          generalize hwa : w5.alloc _ = wb
          have HB17 := Lib.hid (show Blk wb w5.heap.size 25 (stC s (.slice FA s.fails.length Fc)) from by rw [← hwa]; exact Blk.new _ _ _)
          have hbx : Below w5.heap.size w5 wb := by rw [← hwa]; exact (Below.refl _ _).alloc (Nat.le_refl _) _
          replace HB2 := Lib.hid (HB2.out.trans (hbx.mono HB2.out.size))
          replace HW := Lib.hid (own_below HW.out hbx)
          clear hwa hbx
          generalize w5.heap.size = b17 at *
          by_cases hc5 : c5 = 0
          · subst hc5
            have HTX := Lib.hid (parse_good HP.out)
            have cs := stC_cells HB17.out
            go_wp2_with fail
            refine (ltext s HSO.out _ (HEW.out.below HB2.out) ⟨FA, Fc, rfl, Reads.of_own HW.out⟩ (by have := HFL.out; omega)).mono ?_; rintro e w6 ⟨rfl, hb⟩
            rw [HTX.out]
            dsimp only
            replace HB2 := Lib.hid (HB2.out.trans (hb.mono HB2.out.size))
            clear hb cs
            go_wp2_with fail
            refine (told_any (HEW.out.below HB2.out)).mono ?_; rintro e w7 ⟨rfl, hb⟩
            replace HB2 := Lib.hid (HB2.out.trans (hb.mono HB2.out.size))
            clear hb
            have q9 : (t == t) = true := beq_self_eq_true _
            go_wp2
            go_ret
            exact ⟨rfl, HBE.out.trans (HB2.out.mono HBE.out.size)⟩
          · have q9 : (c5 != 0) = true := bne_iff_ne.2 hc5
            have HS0 := Lib.hid (parse_bad HP.out hc5)
            clear hc5
            go_wp2_with fail
            refine (told_any (HEW.out.below HB2.out)).mono ?_; rintro e w7 ⟨rfl, hb⟩
            replace HB2 := Lib.hid (HB2.out.trans (hb.mono HB2.out.size))
            replace HB17 := Lib.hid (HB17.out.below hb HB17.out.lt)
            replace HW := Lib.hid (own_below HW.out hb)
            clear hb
            have cs := stC_cells HB17.out
            go_wp2_with fail
            refine (rsame s {} _ (.slice none 0 0) _ ⟨FA, Fc, rfl, Reads.of_own HW.out⟩ (fails_nil _ _) (by have := HFL.out; omega) (by decide)).mono ?_; rintro e w8 ⟨rfl, hb⟩
            rw [(sameS_iff s {}).2 HS0.out]
            replace HB2 := Lib.hid (HB2.out.trans (hb.mono HB2.out.size))
            clear hb cs
            go_wp2
            go_ret
            exact ⟨rfl, HBE.out.trans (HB2.out.mono HBE.out.size)⟩
      · go_wp2_with fail
        refine HPI.out.mono ?_; rintro e w2 ⟨rfl, hb⟩
        rw [HPR.out]
        dsimp only
        have HB2 := Lib.hid hb
        clear hb
        go_wp2_with fail
        refine (lread z (by have := HPL.out; omega) (HEW.out.below HB2.out)).mono ?_; rintro e w3 ⟨l2, v2, c2, k2, rfl, hr, hL2, hb⟩
        rw [HRB.out] at hr
        injection hr with h1 h2
        injection h2 with h2 h3
        subst h2 h3
        obtain ⟨A2, cc2, rfl, hst2⟩ := hL2.sts
        have hk2 : l2.length = k := by
          have := congrArg List.length h1
          rw [← HM.out, List.length_map, List.length_map, HK.out] at this
          exact this.symm
        replace HB2 := Lib.hid (HB2.out.trans (hb.mono HB2.out.size))
        obtain ⟨lA', lc', e9, hst⟩ := (HLS.out.below HB2.out).sts
        have HAL := Lib.hid (rall L l2 lA A2 lc cc2 w3 (by
          injection e9 with e9 _ _
          rw [e9]; exact hst) hst2 (by rw [HK.out]; omega) (by rw [hk2]; omega) (fun p hp => (HLS.out.fa p hp).2) (fun p hp => (hL2.fa p hp).2))
        rw [HK.out, hk2, HM.out, ← h1, decide_eq_true (rfl : m = m)] at HAL
        rw [hk2]
        clear hb e9 hst hst2 hL2 h1 hk2 hcat
        go_wp2_with fail
        refine HAL.out.mono ?_; rintro e w4 ⟨rfl, hb⟩
        replace HB2 := Lib.hid (HB2.out.trans (hb.mono HB2.out.size))
        clear hb HAL
        obtain ⟨q, hq⟩ : ∃ q, t.length = q := ⟨_, rfl⟩
        have HQ := Lib.hid hq
        by_cases hbig : 1200 < q
        · have q1 : decide ((q : Int) > 1200) = true := decide_eq_true (by omega)
          have q1' : decide (1200 < q) = true := decide_eq_true hbig
          go_wp2_with fail
          refine (told_any (HEW.out.below HB2.out)).mono ?_; rintro e w5 ⟨rfl, hb⟩
          go_wp2
          go_ret
          exact ⟨rfl, HBE.out.trans ((HB2.out.trans (hb.mono HB2.out.size)).mono HBE.out.size)⟩
        · have q1 : decide ((q : Int) > 1200) = false := decide_eq_false (by omega)
          have q1' : decide (1200 < q) = false := decide_eq_false hbig
          go_wp2_with fail
          refine (lparse t (by have := HQ.out; omega) (HEW.out.below HB2.out)).mono ?_; rintro e w5 ⟨s, F, c5, rfl, hp, hok, hW, hfl, hb⟩
          obtain ⟨FA, Fc, rfl⟩ := hW.form
          have HW := Lib.hid hW
          have HP := Lib.hid hp
          have HSO := Lib.hid hok
          have HFL := Lib.hid hfl
          replace HB2 := Lib.hid (HB2.out.trans (hb.mono HB2.out.size))
          clear hb hp hok hW hfl
          go_upto_region 18 with fail
          generalize hwa : w5.alloc _ = wb
          have HB17 := Lib.hid (show Blk wb w5.heap.size 25 (stC s (.slice FA s.fails.length Fc)) from by rw [← hwa]; exact Blk.new _ _ _)
          have hbx : Below w5.heap.size w5 wb := by rw [← hwa]; exact (Below.refl _ _).alloc (Nat.le_refl _) _
          replace HB2 := Lib.hid (HB2.out.trans (hbx.mono HB2.out.size))
          replace HW := Lib.hid (own_below HW.out hbx)
          clear hwa hbx
          generalize w5.heap.size = b17 at *
          by_cases hc5 : c5 = 0
          · subst hc5
            have HTX := Lib.hid (parse_good HP.out)
            have cs := stC_cells HB17.out
            go_wp2_with fail
            refine (ltext s HSO.out _ (HEW.out.below HB2.out) ⟨FA, Fc, rfl, Reads.of_own HW.out⟩ (by have := HFL.out; omega)).mono ?_; rintro e w6 ⟨rfl, hb⟩
            rw [HTX.out]
            dsimp only
            replace HB2 := Lib.hid (HB2.out.trans (hb.mono HB2.out.size))
            clear hb cs
            go_wp2_with fail
            refine (told_any (HEW.out.below HB2.out)).mono ?_; rintro e w7 ⟨rfl, hb⟩
            replace HB2 := Lib.hid (HB2.out.trans (hb.mono HB2.out.size))
            clear hb
            have q9 : (t == t) = true := beq_self_eq_true _
            go_wp2
            go_ret
            exact ⟨rfl, HBE.out.trans (HB2.out.mono HBE.out.size)⟩
          · have q9 : (c5 != 0) = true := bne_iff_ne.2 hc5
            have HS0 := Lib.hid (parse_bad HP.out hc5)
            clear hc5
            go_wp2_with fail
            refine (told_any (HEW.out.below HB2.out)).mono ?_; rintro e w7 ⟨rfl, hb⟩
            replace HB2 := Lib.hid (HB2.out.trans (hb.mono HB2.out.size))
            replace HB17 := Lib.hid (HB17.out.below hb HB17.out.lt)
            replace HW := Lib.hid (own_below HW.out hb)
            clear hb
            have cs := stC_cells HB17.out
            go_wp2_with fail
            refine (rsame s {} _ (.slice none 0 0) _ ⟨FA, Fc, rfl, Reads.of_own HW.out⟩ (fails_nil _ _) (by have := HFL.out; omega) (by decide)).mono ?_; rintro e w8 ⟨rfl, hb⟩
            rw [(sameS_iff s {}).2 HS0.out]
            replace HB2 := Lib.hid (HB2.out.trans (hb.mono HB2.out.size))
            clear hb cs
            go_wp2
            go_ret
            exact ⟨rfl, HBE.out.trans (HB2.out.mono HBE.out.size)⟩
end Go.Proofs.YtjofegjiakjjhaaDoor
