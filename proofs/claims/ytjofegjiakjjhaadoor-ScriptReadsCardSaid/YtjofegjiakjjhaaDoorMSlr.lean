import Derived.Test.YtjofegjiakjjhaaDoorMSlr0
import Derived.Test.YtjofegjiakjjhaaDoorMSsi
import Derived.Test.YtjofegjiakjjhaaDoorMSlc
import Derived.Test.YtjofegjiakjjhaaDoorMSsg
import Derived.BigQuiet
/- Script, the law ScriptReads. -/
namespace Go.Proofs.YtjofegjiakjjhaaDoor
open Go.RowKit Go.Lib Mf

def ReR (W : World) (l : List (St × Value)) (v7 v8 v9 : Value) (wr : World) : Prop := ∃ (i : Nat) (L : List (St × Value)), v9 = .int .i64 i ∧ i ≤ l.length ∧ i ≤ 30 ∧ Two wr W.heap.size L v7 i ((l.take i).flatMap stL) v8 ∧ L.length = i ∧ L.map (·.1) = ((l.take i).map (·.1)).map nearS ∧ (∀ p ∈ l.take i, p.1.fails.length ≤ 40) ∧ Below W.heap.size W wr
theorem take_flat {l : List (St × Value)} {i : Nat} {p : St × Value} (h : l[i]? = some p) : (l.take (i + 1)).flatMap stL = (l.take i).flatMap stL ++ stL p := by
  obtain ⟨hl, rfl⟩ := List.getElem?_eq_some_iff.1 h
  rw [List.take_succ_eq_append_getElem hl, List.flatMap_append]
  simp
theorem Two.sts {w W : World} {A : Option Addr} {l : List (St × Value)} {L : List (St × Value)} {v7 v8 : Value} {i : Nat} (h : Two w W.heap.size L v7 i ((l.take i).flatMap stL) v8) (hi : i ≤ l.length) (hl : StsR W W.heap.size A l) (hb : Below W.heap.size W w) : ∃ B c, v8 = .slice B i c ∧ StsR w w.heap.size B (l.take i) := by
  have hn : (l.take i).length = i := by rw [List.length_take]; omega
  have h2 := h.al
  obtain ⟨B, c, rfl⟩ : ∃ B c, v8 = .slice B i c := by
    rcases h2.2 with ⟨rfl, h0⟩ | ⟨g, cap, cur, rfl, _⟩
    · exact ⟨none, 0, by rw [h0]⟩
    · exact ⟨_, _, rfl⟩
  refine ⟨B, c, rfl, ?_, fun p hp => failsAt_more ((hl.below hb).fl p (List.mem_of_mem_take hp)) hb.size⟩
  rw [hn]
  exact Reads.of_own h2
set_option maxRecDepth 20000 in
set_option maxHeartbeats 8000000 in
theorem scriptReads_walk {W : World} (A0 : Option Addr) (c0 : Nat) (l : List (St × Value)) (hl : StsR W W.heap.size A0 l) (hlc : l.length ≤ c0) (hcm : c0 ≤ maxLen) (hfit : FitL l) (t : Bs) (a2 : Int) (he : Env W) :
    Calls Tryd.prog 6 #[.slice A0 l.length c0, bv t, .int .i64 a2] W fun e W' => e = .returned (.bool true) ∧ Below W.heap.size W W' := by
  obtain ⟨i0, hi0, hz0', hz1, hz2⟩ := info_parts infoSt
  obtain ⟨n, hn⟩ : ∃ n, l.length = n := ⟨_, rfl⟩
  obtain ⟨tn, htn⟩ : ∃ n, t.length = n := ⟨_, rfl⟩
  have HN := Lib.hid hn
  have HT := Lib.hid htn
  have HL := Lib.hid hl
  have HFT := Lib.hid hfit
  have HE := Lib.hid he
  have hnm : n ≤ maxLen := by omega
  rw [hn]
  clear hn hl hfit he hlc hcm
  go_enter Tryd.func6, Tryd.ntmps6
  by_cases hbig : 300 < tn
  · have q : decide ((tn : Int) > 300) = true := decide_eq_true (by omega)
    have q' : decide (300 < tn) = true := decide_eq_true hbig
    go_wp2_with fail
    refine (told_any HE.out).mono ?_; rintro e wn ⟨rfl, hb⟩
    go_wp2
    go_ret
    exact ⟨rfl, hb⟩
  have q : decide ((tn : Int) > 300) = false := decide_eq_false (by omega)
  have q' : decide (300 < tn) = false := decide_eq_false hbig
  have HTL := Lib.hid (show tn ≤ 300 by omega)
  go_wp2_with fail
  clear q q' hbig
  go_loopw [7, 8, 9] (ReR W l) (fun _ _ v _ => 30 - cntZ v)
  case atStart => exact ⟨0, [], rfl, Nat.zero_le _, Nat.zero_le _, ⟨LsR.nil _ _, World.ownsRow_nil _ _ _ _, (fun g h => by cases h), (fun p h => by cases h)⟩, rfl, rfl, (fun p h => by cases h), Below.refl _ _⟩
  case round =>
    obtain ⟨i, L, rfl, hi, hi30, hTW, hLi, hLm, hf4, hbe⟩ := hrel
    have HTW := Lib.hid hTW
    have HLI := Lib.hid hLi
    have HLM := Lib.hid hLm
    have HF4 := Lib.hid hf4
    have HBE := Lib.hid hbe
    have HEW := Lib.hid (HE.out.below hbe)
    rw [HN.out] at hi
    clear hTW hLi hLm hbe hf4
    by_cases hin : i < n ∧ i < 30
    · obtain ⟨hin, h30⟩ := hin
      have g1 : decide ((i : Int) < (n : Int)) = true := decide_eq_true (by omega)
      have g1' : decide (i < n) = true := decide_eq_true hin
      have g2 : decide ((i : Int) < 30) = true := decide_eq_true (by omega)
      have g2' : decide (i < 30) = true := decide_eq_true h30
      obtain ⟨⟨s, F⟩, hs⟩ : ∃ p, l[i]? = some p := ⟨_, List.getElem?_eq_getElem (by rw [HN.out]; exact hin)⟩
      obtain ⟨ad, rfl, hab, hfa, hca⟩ := HL.out.cel hs
      obtain ⟨hok, FA0, Fc0, hF, hf1, hf2⟩ := HFT.out _ (List.mem_of_getElem? hs)
      dsimp only at hok hF hf1 hf2
      subst hF
      have HC := Lib.hid hca
      have HAB := Lib.hid (show (ad.add (i * 12)).block < W.heap.size from by
        unfold Addr.add
        split <;> exact hab)
      have HS := Lib.hid hs
      obtain ⟨k, hk⟩ : ∃ k, s.fails.length = k := ⟨_, rfl⟩
      have HNR := Lib.hid (fun w (hb : Below W.heap.size W w) => rnear s hok FA0 Fc0 hf1 (Nat.le_trans hf1 hf2) w (by
        obtain ⟨A, c, e, hr⟩ := hfa
        injection e with e1 e2 e3
        subst e1
        exact (hr.below hb).more hb.size))
      obtain ⟨nr, hnr⟩ : ∃ x, nearS s = x := ⟨_, rfl⟩
      have HNS := Lib.hid hnr
      have hno := near_ok hok
      rw [hnr] at HNR hno
      have HNO := Lib.hid hno
      have HKL := Lib.hid hk
      have hSL : stL (s, .slice FA0 k Fc0) = (stC s (.slice FA0 k Fc0)).toList := rfl
      have HSL := Lib.hid hSL
      rw [hk] at HC HS HNR
      clear hs hok hf1 hf2 hfa hca hnr hno hk hSL
      obtain ⟨u0, u1, u2, u3, u4, u5, u6, u7, u8, u9, u10, u11⟩ := HC.out.below HBE.out HAB.out
      by_cases hbig : 40 < k
      · have q : decide ((k : Int) > 40) = true := decide_eq_true (by omega)
        have q' : decide (40 < k) = true := decide_eq_true hbig
        go_wp2_with fail
        refine (told_any HEW.out).mono ?_; rintro e wn ⟨rfl, hb⟩
        go_wp2
        go_ret
        exact ⟨rfl, HBE.out.trans (hb.mono HBE.out.size)⟩
      have q : decide ((k : Int) > 40) = false := decide_eq_false (by omega)
      have q' : decide (40 < k) = false := decide_eq_false hbig
      have HFL := Lib.hid (show s.fails.length ≤ 40 by rw [HKL.out]; omega)
      go_upto_region 9 with fail
      clear u0 u1 u2 u3 u4 u5 u6 u7 u8 u9 u10 u11 q q' g1 g1' g2 g2' hbig
      refine wp_region_held_drew (S := (fun w' => (w'.cell? (ad.add (i * 12)) = some (.int .i64 s.kind) ∧ w'.cell? ⟨(ad.add (i * 12)).block, (ad.add (i * 12)).off + 1, none⟩ = some (.int .i64 s.guest) ∧ w'.cell? ⟨(ad.add (i * 12)).block, (ad.add (i * 12)).off + 2, none⟩ = some (.int .u64 s.addr) ∧ w'.cell? ⟨(ad.add (i * 12)).block, (ad.add (i * 12)).off + 3, none⟩ = some (.int .i64 s.size) ∧ w'.cell? ⟨(ad.add (i * 12)).block, (ad.add (i * 12)).off + 4, none⟩ = some (.int .u64 s.value) ∧ w'.cell? ⟨(ad.add (i * 12)).block, (ad.add (i * 12)).off + 5, none⟩ = some (.int .i64 s.page) ∧ w'.cell? ⟨(ad.add (i * 12)).block, (ad.add (i * 12)).off + 6, none⟩ = some (.bool s.on) ∧ w'.cell? ⟨(ad.add (i * 12)).block, (ad.add (i * 12)).off + 7, none⟩ = some (.int .i64 s.asid) ∧ w'.cell? ⟨(ad.add (i * 12)).block, (ad.add (i * 12)).off + 8, none⟩ = some (.int .i64 s.what) ∧ w'.cell? ⟨(ad.add (i * 12)).block, (ad.add (i * 12)).off + 9, none⟩ = some (.int .i64 s.set) ∧ w'.cell? ⟨(ad.add (i * 12)).block, (ad.add (i * 12)).off + 10, none⟩ = some (.int .i64 s.way) ∧ w'.cell? ⟨(ad.add (i * 12)).block, (ad.add (i * 12)).off + 11, none⟩ = some (.slice FA0 k Fc0)))) (by kernel_rfl) ?_ (fun hHeld => ?_)
      · exact HC.out.below (HBE.out.drew) HAB.out
      replace HTW := Lib.hid (HTW.out.below ((Below.refl _ _).drew))
      replace HBE := Lib.hid (HBE.out.drew)
      generalize wr.drew = wv at *
      obtain ⟨wd, rfl⟩ : ∃ x : World, x = wv := ⟨_, rfl⟩
      ((refine takeY 0 (v := ?_) rfl (by kernel_rfl) (by kernel_rfl) (by kernel_rfl) (fun _ _ _ h => h) (by rfl) (by assumption) ?_ ?_; rotate_left; · (intro w hSw; (try dsimp only at hSw); go_simp; (first | done | with_reducible rfl))))
      (try simp only [Act.put, List.setIfInBounds_toArray, List.set_cons_zero, List.set_cons_succ])
      ((refine takeY 1 (v := ?_) rfl (by kernel_rfl) (by kernel_rfl) (by kernel_rfl) (fun _ _ _ h => h) (by rfl) (by assumption) ?_ ?_; rotate_left; · (intro w hSw; (try dsimp only at hSw); go_simp; (first | done | with_reducible rfl))))
      (try simp only [Act.put, List.setIfInBounds_toArray, List.set_cons_zero, List.set_cons_succ])
      ((refine takeY 2 (v := ?_) rfl (by kernel_rfl) (by kernel_rfl) (by kernel_rfl) (fun _ _ _ h => h) (by rfl) (by assumption) ?_ ?_; rotate_left; · (intro w hSw; (try dsimp only at hSw); go_simp; (first | done | with_reducible rfl))))
      (try simp only [Act.put, List.setIfInBounds_toArray, List.set_cons_zero, List.set_cons_succ])
      ((refine takeY 3 (v := ?_) rfl (by kernel_rfl) (by kernel_rfl) (by kernel_rfl) (fun _ _ _ h => h) (by rfl) (by assumption) ?_ ?_; rotate_left; · (intro w hSw; (try dsimp only at hSw); go_simp; (first | done | with_reducible rfl))))
      (try simp only [Act.put, List.setIfInBounds_toArray, List.set_cons_zero, List.set_cons_succ])
      ((refine takeY 4 (v := ?_) rfl (by kernel_rfl) (by kernel_rfl) (by kernel_rfl) (fun _ _ _ h => h) (by rfl) (by assumption) ?_ ?_; rotate_left; · (intro w hSw; (try dsimp only at hSw); go_simp; (first | done | with_reducible rfl))))
      (try simp only [Act.put, List.setIfInBounds_toArray, List.set_cons_zero, List.set_cons_succ])
      ((refine takeY 8 (v := ?_) rfl (by kernel_rfl) (by kernel_rfl) (by kernel_rfl) (fun _ _ _ h => h) (by rfl) (by assumption) ?_ ?_; rotate_left; · (intro w hSw; (try dsimp only at hSw); go_simp; (first | done | with_reducible rfl))))
      (try simp only [Act.put, List.setIfInBounds_toArray, List.set_cons_zero, List.set_cons_succ])
      ((refine takeY 9 (v := ?_) rfl (by kernel_rfl) (by kernel_rfl) (by kernel_rfl) (fun _ _ _ h => h) (by rfl) (by assumption) ?_ ?_; rotate_left; · (intro w hSw; (try dsimp only at hSw); go_simp; (first | done | with_reducible rfl))))
      (try simp only [Act.put, List.setIfInBounds_toArray, List.set_cons_zero, List.set_cons_succ])
      ((refine takeY 10 (v := ?_) rfl (by kernel_rfl) (by kernel_rfl) (by kernel_rfl) (fun _ _ _ h => h) (by rfl) (by assumption) ?_ ?_; rotate_left; · (intro w hSw; (try dsimp only at hSw); go_simp; (first | done | with_reducible rfl))))
      (try simp only [Act.put, List.setIfInBounds_toArray, List.set_cons_zero, List.set_cons_succ])
      ((refine takeY 11 (v := ?_) rfl (by kernel_rfl) (by kernel_rfl) (by kernel_rfl) (fun _ _ _ h => h) (by rfl) (by assumption) ?_ ?_; rotate_left; · (intro w hSw; (try dsimp only at hSw); go_simp; (first | done | with_reducible rfl))))
      (try simp only [Act.put, List.setIfInBounds_toArray, List.set_cons_zero, List.set_cons_succ])
      ((refine takeY 12 (v := ?_) rfl (by kernel_rfl) (by kernel_rfl) (by kernel_rfl) (fun _ _ _ h => h) (by rfl) (by assumption) ?_ ?_; rotate_left; · (intro w hSw; (try dsimp only at hSw); go_simp; (first | done | with_reducible rfl))))
      (try simp only [Act.put, List.setIfInBounds_toArray, List.set_cons_zero, List.set_cons_succ])
      refine wpAnyH_ready (rs := [5, 13]) (by kernel_rfl) (by simp) ?_
      refine consH 5 rfl (by rfl) (fun K hK => ?_) (consH 13 rfl (by rfl) (fun K hK => ?_) (AllReadyH.nil))
      · go_simp
        refine (HNR.out _ HBE.out).mono ?_; rintro e we ⟨F', rfl, hW, hb⟩
        obtain ⟨FA, Fc, rfl⟩ := hW.form
        have HNF := Lib.hid (NewF.of HTW.out hW HBE.out.size)
        replace HTW := Lib.hid (HTW.out.below hb)
        replace HBE := Lib.hid (HBE.out.trans (hb.mono HBE.out.size))
        clear hb hW
        (refine hK.out _ _ ?_ (fun hHeld => ?_))
        · exact HC.out.below HBE.out HAB.out
        clear hK K
        obtain ⟨wd, rfl⟩ : ∃ x : World, x = we := ⟨_, rfl⟩
        refine wpAnyH_ready (rs := [6, 13]) (by kernel_rfl) (by simp) ?_
        refine consH 6 rfl (by rfl) (fun K hK => ?_) (consH 13 rfl (by rfl) (fun K hK => ?_) (AllReadyH.nil))
        · go_simp
          have HB6 := Lib.hid (NewB.of HTW.out (stC nr (.slice FA nr.fails.length Fc)))
          have hb := (Below.refl wd.heap.size wd).alloc (Nat.le_refl _) (.cells (stC nr (.slice FA nr.fails.length Fc)) 25)
          replace HTW := Lib.hid (HTW.out.below hb)
          replace HNF := Lib.hid (HNF.out.below hb)
          replace HBE := Lib.hid (HBE.out.trans (hb.mono HBE.out.size))
          clear hb
          (refine hK.out _ _ ?_ (fun hHeld => ?_))
          · exact HC.out.below HBE.out HAB.out
          clear hK K
          generalize wd.alloc _ = we at *
          generalize wd.heap.size = b6 at *
          obtain ⟨wd, rfl⟩ : ∃ x : World, x = we := ⟨_, rfl⟩
          refine wpAnyH_ready (rs := [7, 13]) (by kernel_rfl) (by simp) ?_
          refine consH 7 rfl (by rfl) (fun K hK => ?_) (consH 13 rfl (by rfl) (fun K hK => ?_) (AllReadyH.nil))
          · (refine wp_append_any _ (.tmp 48) (.tmp 54) _ rfl W.heap.size 25 i0 _ 12 112 Tryd.underlying28 hi0 hz0' hz1 hz2 rfl (by omega) _ L.length _ rfl HTW.out.ls.row _ (some ⟨b6, 0, none⟩) 1 _ (stL (nr, .slice FA nr.fails.length Fc)) rfl (reads_one12 HB6.out.blk) (stL_one _ _ _ _) (by rw [HLI.out]; unfold maxLen; omega) (by rw [HLI.out]; omega) HBE.out.size ?_; intro v2 we hown2 hg2 hat2)
            replace HBE := Lib.hid (HBE.out.grown hg2 HBE.out.size (fun g hg => (HTW.out.ls.row.lt g hg).1))
            replace HTW := Lib.hid (HTW.out.grow7 HNF.out ⟨HNO.out.1, by have := HNO.out.2; omega⟩ hown2 hg2 hat2)
            clear hown2 hg2 hat2 HNF HB6
            (refine hK.out _ _ ?_ (fun hHeld => ?_))
            · exact HC.out.below HBE.out HAB.out
            clear hK K
            obtain ⟨wd, rfl⟩ : ∃ x : World, x = we := ⟨_, rfl⟩
            refine stepH 13 rfl (by kernel_rfl) (by rfl) (fun K hK => ?_)
            go_simp
            have HB13 := Lib.hid (NewB.of HTW.out (stC s (.slice FA0 k Fc0)))
            have hb := (Below.refl wd.heap.size wd).alloc (Nat.le_refl _) (.cells (stC s (.slice FA0 k Fc0)) 25)
            replace HTW := Lib.hid (HTW.out.below hb)
            replace HBE := Lib.hid (HBE.out.trans (hb.mono HBE.out.size))
            clear hb
            (refine hK.out _ _ ?_ (fun hHeld => ?_))
            · exact HC.out.below HBE.out HAB.out
            clear hK K
            generalize wd.alloc _ = we at *
            generalize wd.heap.size = b13 at *
            obtain ⟨wd, rfl⟩ : ∃ x : World, x = we := ⟨_, rfl⟩
            refine stepH 14 rfl (by kernel_rfl) (by rfl) (fun K hK => ?_)
            (refine wp_append_any _ (.tmp 56) (.tmp 61) _ rfl W.heap.size 25 i0 _ 12 112 Tryd.underlying28 hi0 hz0' hz1 hz2 rfl (by omega) _ i _ rfl HTW.out.al _ (some ⟨b13, 0, none⟩) 1 _ (stL (s, .slice FA0 k Fc0)) rfl (reads_one12 HB13.out.blk) (stL_one _ _ _ _) (by unfold maxLen; omega) (by omega) HBE.out.size ?_; intro v2 we hown2 hg2 hat2)
            replace HBE := Lib.hid (HBE.out.grown hg2 HBE.out.size (fun g hg => (HTW.out.al.lt g hg).1))
            replace HTW := Lib.hid (HTW.out.grow8 hown2 hg2 hat2)
            clear hown2 hg2 hat2 HB13
            (refine hK.out _ _ ?_ (fun hHeld => ?_))
            · exact HC.out.below HBE.out HAB.out
            clear hK K
            obtain ⟨wd, rfl⟩ : ∃ x : World, x = we := ⟨_, rfl⟩
            ((refine takeY 15 (v := ?_) rfl (by kernel_rfl) (by kernel_rfl) (by kernel_rfl) (fun _ _ _ h => h) (by rfl) (by assumption) ?_ ?_; rotate_left; · (intro w hSw; (try dsimp only at hSw); go_simp; (first | done | with_reducible rfl))))
            (try simp only [Act.put, List.setIfInBounds_toArray, List.set_cons_zero, List.set_cons_succ])
            ((refine takeY 16 (v := ?_) rfl (by kernel_rfl) (by kernel_rfl) (by kernel_rfl) (fun _ _ _ h => h) (by rfl) (by assumption) ?_ ?_; rotate_left; · (intro w hSw; (try dsimp only at hSw); go_simp; (first | done | with_reducible rfl))))
            (try simp only [Act.put, List.setIfInBounds_toArray, List.set_cons_zero, List.set_cons_succ])
            refine wpAnyH_done (by kernel_rfl) ?_ _
            clear hHeld
            go_wp2
            refine ⟨⟨i + 1, L ++ [(nr, .slice FA nr.fails.length Fc)], by go_num, by rw [HN.out]; omega, by omega, by rw [take_flat HS.out]; exact HTW.out, by rw [List.length_append, List.length_singleton, HLI.out], ?_, ?_, HBE.out⟩, by simp [cntZ]; omega⟩
            · obtain ⟨hl9, e9⟩ := List.getElem?_eq_some_iff.1 HS.out
              rw [List.take_succ_eq_append_getElem hl9, List.map_append, List.map_append, List.map_append, HLM.out, e9]
              show _ ++ [nr] = _ ++ [nearS s]
              rw [HNS.out]
            · intro p hp
              obtain ⟨hl9, e9⟩ := List.getElem?_eq_some_iff.1 HS.out
              rw [List.take_succ_eq_append_getElem hl9, e9] at hp
              rcases List.mem_append.1 hp with hp | hp
              · exact HF4.out p hp
              · rw [List.mem_singleton] at hp; subst hp; exact HFL.out
          · go_simp
            have HB13 := Lib.hid (NewB.of HTW.out (stC s (.slice FA0 k Fc0)))
            have hb := (Below.refl wd.heap.size wd).alloc (Nat.le_refl _) (.cells (stC s (.slice FA0 k Fc0)) 25)
            replace HTW := Lib.hid (HTW.out.below hb)
            replace HNF := Lib.hid (HNF.out.below hb)
            replace HB6 := Lib.hid (HB6.out.below hb)
            replace HBE := Lib.hid (HBE.out.trans (hb.mono HBE.out.size))
            clear hb
            (refine hK.out _ _ ?_ (fun hHeld => ?_))
            · exact HC.out.below HBE.out HAB.out
            clear hK K
            generalize wd.alloc _ = we at *
            generalize wd.heap.size = b13 at *
            obtain ⟨wd, rfl⟩ : ∃ x : World, x = we := ⟨_, rfl⟩
            refine stepH 7 rfl (by kernel_rfl) (by rfl) (fun K hK => ?_)
            (refine wp_append_any _ (.tmp 48) (.tmp 54) _ rfl W.heap.size 25 i0 _ 12 112 Tryd.underlying28 hi0 hz0' hz1 hz2 rfl (by omega) _ L.length _ rfl HTW.out.ls.row _ (some ⟨b6, 0, none⟩) 1 _ (stL (nr, .slice FA nr.fails.length Fc)) rfl (reads_one12 HB6.out.blk) (stL_one _ _ _ _) (by rw [HLI.out]; unfold maxLen; omega) (by rw [HLI.out]; omega) HBE.out.size ?_; intro v2 we hown2 hg2 hat2)
            replace HBE := Lib.hid (HBE.out.grown hg2 HBE.out.size (fun g hg => (HTW.out.ls.row.lt g hg).1))
            replace HB13 := Lib.hid (HB13.out.grow7 hg2 hat2)
            replace HTW := Lib.hid (HTW.out.grow7 HNF.out ⟨HNO.out.1, by have := HNO.out.2; omega⟩ hown2 hg2 hat2)
            clear hown2 hg2 hat2 HNF HB6
            (refine hK.out _ _ ?_ (fun hHeld => ?_))
            · exact HC.out.below HBE.out HAB.out
            clear hK K
            obtain ⟨wd, rfl⟩ : ∃ x : World, x = we := ⟨_, rfl⟩
            refine stepH 14 rfl (by kernel_rfl) (by rfl) (fun K hK => ?_)
            (refine wp_append_any _ (.tmp 56) (.tmp 61) _ rfl W.heap.size 25 i0 _ 12 112 Tryd.underlying28 hi0 hz0' hz1 hz2 rfl (by omega) _ i _ rfl HTW.out.al _ (some ⟨b13, 0, none⟩) 1 _ (stL (s, .slice FA0 k Fc0)) rfl (reads_one12 HB13.out.blk) (stL_one _ _ _ _) (by unfold maxLen; omega) (by omega) HBE.out.size ?_; intro v2 we hown2 hg2 hat2)
            replace HBE := Lib.hid (HBE.out.grown hg2 HBE.out.size (fun g hg => (HTW.out.al.lt g hg).1))
            replace HTW := Lib.hid (HTW.out.grow8 hown2 hg2 hat2)
            clear hown2 hg2 hat2 HB13
            (refine hK.out _ _ ?_ (fun hHeld => ?_))
            · exact HC.out.below HBE.out HAB.out
            clear hK K
            obtain ⟨wd, rfl⟩ : ∃ x : World, x = we := ⟨_, rfl⟩
            ((refine takeY 15 (v := ?_) rfl (by kernel_rfl) (by kernel_rfl) (by kernel_rfl) (fun _ _ _ h => h) (by rfl) (by assumption) ?_ ?_; rotate_left; · (intro w hSw; (try dsimp only at hSw); go_simp; (first | done | with_reducible rfl))))
            (try simp only [Act.put, List.setIfInBounds_toArray, List.set_cons_zero, List.set_cons_succ])
            ((refine takeY 16 (v := ?_) rfl (by kernel_rfl) (by kernel_rfl) (by kernel_rfl) (fun _ _ _ h => h) (by rfl) (by assumption) ?_ ?_; rotate_left; · (intro w hSw; (try dsimp only at hSw); go_simp; (first | done | with_reducible rfl))))
            (try simp only [Act.put, List.setIfInBounds_toArray, List.set_cons_zero, List.set_cons_succ])
            refine wpAnyH_done (by kernel_rfl) ?_ _
            clear hHeld
            go_wp2
            refine ⟨⟨i + 1, L ++ [(nr, .slice FA nr.fails.length Fc)], by go_num, by rw [HN.out]; omega, by omega, by rw [take_flat HS.out]; exact HTW.out, by rw [List.length_append, List.length_singleton, HLI.out], ?_, ?_, HBE.out⟩, by simp [cntZ]; omega⟩
            · obtain ⟨hl9, e9⟩ := List.getElem?_eq_some_iff.1 HS.out
              rw [List.take_succ_eq_append_getElem hl9, List.map_append, List.map_append, List.map_append, HLM.out, e9]
              show _ ++ [nr] = _ ++ [nearS s]
              rw [HNS.out]
            · intro p hp
              obtain ⟨hl9, e9⟩ := List.getElem?_eq_some_iff.1 HS.out
              rw [List.take_succ_eq_append_getElem hl9, e9] at hp
              rcases List.mem_append.1 hp with hp | hp
              · exact HF4.out p hp
              · rw [List.mem_singleton] at hp; subst hp; exact HFL.out
        · go_simp
          have HB13 := Lib.hid (NewB.of HTW.out (stC s (.slice FA0 k Fc0)))
          have hb := (Below.refl wd.heap.size wd).alloc (Nat.le_refl _) (.cells (stC s (.slice FA0 k Fc0)) 25)
          replace HTW := Lib.hid (HTW.out.below hb)
          replace HNF := Lib.hid (HNF.out.below hb)
          replace HBE := Lib.hid (HBE.out.trans (hb.mono HBE.out.size))
          clear hb
          (refine hK.out _ _ ?_ (fun hHeld => ?_))
          · exact HC.out.below HBE.out HAB.out
          clear hK K
          generalize wd.alloc _ = we at *
          generalize wd.heap.size = b13 at *
          obtain ⟨wd, rfl⟩ : ∃ x : World, x = we := ⟨_, rfl⟩
          refine stepH 6 rfl (by kernel_rfl) (by rfl) (fun K hK => ?_)
          go_simp
          have HB6 := Lib.hid (NewB.of HTW.out (stC nr (.slice FA nr.fails.length Fc)))
          have hb := (Below.refl wd.heap.size wd).alloc (Nat.le_refl _) (.cells (stC nr (.slice FA nr.fails.length Fc)) 25)
          replace HTW := Lib.hid (HTW.out.below hb)
          replace HNF := Lib.hid (HNF.out.below hb)
          replace HB13 := Lib.hid (HB13.out.below hb)
          replace HBE := Lib.hid (HBE.out.trans (hb.mono HBE.out.size))
          clear hb
          (refine hK.out _ _ ?_ (fun hHeld => ?_))
          · exact HC.out.below HBE.out HAB.out
          clear hK K
          generalize wd.alloc _ = we at *
          generalize wd.heap.size = b6 at *
          obtain ⟨wd, rfl⟩ : ∃ x : World, x = we := ⟨_, rfl⟩
          refine stepH 7 rfl (by kernel_rfl) (by rfl) (fun K hK => ?_)
          (refine wp_append_any _ (.tmp 48) (.tmp 54) _ rfl W.heap.size 25 i0 _ 12 112 Tryd.underlying28 hi0 hz0' hz1 hz2 rfl (by omega) _ L.length _ rfl HTW.out.ls.row _ (some ⟨b6, 0, none⟩) 1 _ (stL (nr, .slice FA nr.fails.length Fc)) rfl (reads_one12 HB6.out.blk) (stL_one _ _ _ _) (by rw [HLI.out]; unfold maxLen; omega) (by rw [HLI.out]; omega) HBE.out.size ?_; intro v2 we hown2 hg2 hat2)
          replace HBE := Lib.hid (HBE.out.grown hg2 HBE.out.size (fun g hg => (HTW.out.ls.row.lt g hg).1))
          replace HB13 := Lib.hid (HB13.out.grow7 hg2 hat2)
          replace HTW := Lib.hid (HTW.out.grow7 HNF.out ⟨HNO.out.1, by have := HNO.out.2; omega⟩ hown2 hg2 hat2)
          clear hown2 hg2 hat2 HNF HB6
          (refine hK.out _ _ ?_ (fun hHeld => ?_))
          · exact HC.out.below HBE.out HAB.out
          clear hK K
          obtain ⟨wd, rfl⟩ : ∃ x : World, x = we := ⟨_, rfl⟩
          refine stepH 14 rfl (by kernel_rfl) (by rfl) (fun K hK => ?_)
          (refine wp_append_any _ (.tmp 56) (.tmp 61) _ rfl W.heap.size 25 i0 _ 12 112 Tryd.underlying28 hi0 hz0' hz1 hz2 rfl (by omega) _ i _ rfl HTW.out.al _ (some ⟨b13, 0, none⟩) 1 _ (stL (s, .slice FA0 k Fc0)) rfl (reads_one12 HB13.out.blk) (stL_one _ _ _ _) (by unfold maxLen; omega) (by omega) HBE.out.size ?_; intro v2 we hown2 hg2 hat2)
          replace HBE := Lib.hid (HBE.out.grown hg2 HBE.out.size (fun g hg => (HTW.out.al.lt g hg).1))
          replace HTW := Lib.hid (HTW.out.grow8 hown2 hg2 hat2)
          clear hown2 hg2 hat2 HB13
          (refine hK.out _ _ ?_ (fun hHeld => ?_))
          · exact HC.out.below HBE.out HAB.out
          clear hK K
          obtain ⟨wd, rfl⟩ : ∃ x : World, x = we := ⟨_, rfl⟩
          ((refine takeY 15 (v := ?_) rfl (by kernel_rfl) (by kernel_rfl) (by kernel_rfl) (fun _ _ _ h => h) (by rfl) (by assumption) ?_ ?_; rotate_left; · (intro w hSw; (try dsimp only at hSw); go_simp; (first | done | with_reducible rfl))))
          (try simp only [Act.put, List.setIfInBounds_toArray, List.set_cons_zero, List.set_cons_succ])
          ((refine takeY 16 (v := ?_) rfl (by kernel_rfl) (by kernel_rfl) (by kernel_rfl) (fun _ _ _ h => h) (by rfl) (by assumption) ?_ ?_; rotate_left; · (intro w hSw; (try dsimp only at hSw); go_simp; (first | done | with_reducible rfl))))
          (try simp only [Act.put, List.setIfInBounds_toArray, List.set_cons_zero, List.set_cons_succ])
          refine wpAnyH_done (by kernel_rfl) ?_ _
          clear hHeld
          go_wp2
          refine ⟨⟨i + 1, L ++ [(nr, .slice FA nr.fails.length Fc)], by go_num, by rw [HN.out]; omega, by omega, by rw [take_flat HS.out]; exact HTW.out, by rw [List.length_append, List.length_singleton, HLI.out], ?_, ?_, HBE.out⟩, by simp [cntZ]; omega⟩
          · obtain ⟨hl9, e9⟩ := List.getElem?_eq_some_iff.1 HS.out
            rw [List.take_succ_eq_append_getElem hl9, List.map_append, List.map_append, List.map_append, HLM.out, e9]
            show _ ++ [nr] = _ ++ [nearS s]
            rw [HNS.out]
          · intro p hp
            obtain ⟨hl9, e9⟩ := List.getElem?_eq_some_iff.1 HS.out
            rw [List.take_succ_eq_append_getElem hl9, e9] at hp
            rcases List.mem_append.1 hp with hp | hp
            · exact HF4.out p hp
            · rw [List.mem_singleton] at hp; subst hp; exact HFL.out
      · go_simp
        have HB13 := Lib.hid (NewB.of HTW.out (stC s (.slice FA0 k Fc0)))
        have hb := (Below.refl wd.heap.size wd).alloc (Nat.le_refl _) (.cells (stC s (.slice FA0 k Fc0)) 25)
        replace HTW := Lib.hid (HTW.out.below hb)
        replace HBE := Lib.hid (HBE.out.trans (hb.mono HBE.out.size))
        clear hb
        (refine hK.out _ _ ?_ (fun hHeld => ?_))
        · exact HC.out.below HBE.out HAB.out
        clear hK K
        generalize wd.alloc _ = we at *
        generalize wd.heap.size = b13 at *
        obtain ⟨wd, rfl⟩ : ∃ x : World, x = we := ⟨_, rfl⟩
        refine stepH 5 rfl (by kernel_rfl) (by rfl) (fun K hK => ?_)
        go_simp
        refine (HNR.out _ HBE.out).mono ?_; rintro e we ⟨F', rfl, hW, hb⟩
        obtain ⟨FA, Fc, rfl⟩ := hW.form
        have HNF := Lib.hid (NewF.of HTW.out hW HBE.out.size)
        replace HTW := Lib.hid (HTW.out.below hb)
        replace HB13 := Lib.hid (HB13.out.below hb)
        replace HBE := Lib.hid (HBE.out.trans (hb.mono HBE.out.size))
        clear hb hW
        (refine hK.out _ _ ?_ (fun hHeld => ?_))
        · exact HC.out.below HBE.out HAB.out
        clear hK K
        obtain ⟨wd, rfl⟩ : ∃ x : World, x = we := ⟨_, rfl⟩
        refine stepH 6 rfl (by kernel_rfl) (by rfl) (fun K hK => ?_)
        go_simp
        have HB6 := Lib.hid (NewB.of HTW.out (stC nr (.slice FA nr.fails.length Fc)))
        have hb := (Below.refl wd.heap.size wd).alloc (Nat.le_refl _) (.cells (stC nr (.slice FA nr.fails.length Fc)) 25)
        replace HTW := Lib.hid (HTW.out.below hb)
        replace HNF := Lib.hid (HNF.out.below hb)
        replace HB13 := Lib.hid (HB13.out.below hb)
        replace HBE := Lib.hid (HBE.out.trans (hb.mono HBE.out.size))
        clear hb
        (refine hK.out _ _ ?_ (fun hHeld => ?_))
        · exact HC.out.below HBE.out HAB.out
        clear hK K
        generalize wd.alloc _ = we at *
        generalize wd.heap.size = b6 at *
        obtain ⟨wd, rfl⟩ : ∃ x : World, x = we := ⟨_, rfl⟩
        refine stepH 7 rfl (by kernel_rfl) (by rfl) (fun K hK => ?_)
        (refine wp_append_any _ (.tmp 48) (.tmp 54) _ rfl W.heap.size 25 i0 _ 12 112 Tryd.underlying28 hi0 hz0' hz1 hz2 rfl (by omega) _ L.length _ rfl HTW.out.ls.row _ (some ⟨b6, 0, none⟩) 1 _ (stL (nr, .slice FA nr.fails.length Fc)) rfl (reads_one12 HB6.out.blk) (stL_one _ _ _ _) (by rw [HLI.out]; unfold maxLen; omega) (by rw [HLI.out]; omega) HBE.out.size ?_; intro v2 we hown2 hg2 hat2)
        replace HBE := Lib.hid (HBE.out.grown hg2 HBE.out.size (fun g hg => (HTW.out.ls.row.lt g hg).1))
        replace HB13 := Lib.hid (HB13.out.grow7 hg2 hat2)
        replace HTW := Lib.hid (HTW.out.grow7 HNF.out ⟨HNO.out.1, by have := HNO.out.2; omega⟩ hown2 hg2 hat2)
        clear hown2 hg2 hat2 HNF HB6
        (refine hK.out _ _ ?_ (fun hHeld => ?_))
        · exact HC.out.below HBE.out HAB.out
        clear hK K
        obtain ⟨wd, rfl⟩ : ∃ x : World, x = we := ⟨_, rfl⟩
        refine stepH 14 rfl (by kernel_rfl) (by rfl) (fun K hK => ?_)
        (refine wp_append_any _ (.tmp 56) (.tmp 61) _ rfl W.heap.size 25 i0 _ 12 112 Tryd.underlying28 hi0 hz0' hz1 hz2 rfl (by omega) _ i _ rfl HTW.out.al _ (some ⟨b13, 0, none⟩) 1 _ (stL (s, .slice FA0 k Fc0)) rfl (reads_one12 HB13.out.blk) (stL_one _ _ _ _) (by unfold maxLen; omega) (by omega) HBE.out.size ?_; intro v2 we hown2 hg2 hat2)
        replace HBE := Lib.hid (HBE.out.grown hg2 HBE.out.size (fun g hg => (HTW.out.al.lt g hg).1))
        replace HTW := Lib.hid (HTW.out.grow8 hown2 hg2 hat2)
        clear hown2 hg2 hat2 HB13
        (refine hK.out _ _ ?_ (fun hHeld => ?_))
        · exact HC.out.below HBE.out HAB.out
        clear hK K
        obtain ⟨wd, rfl⟩ : ∃ x : World, x = we := ⟨_, rfl⟩
        ((refine takeY 15 (v := ?_) rfl (by kernel_rfl) (by kernel_rfl) (by kernel_rfl) (fun _ _ _ h => h) (by rfl) (by assumption) ?_ ?_; rotate_left; · (intro w hSw; (try dsimp only at hSw); go_simp; (first | done | with_reducible rfl))))
        (try simp only [Act.put, List.setIfInBounds_toArray, List.set_cons_zero, List.set_cons_succ])
        ((refine takeY 16 (v := ?_) rfl (by kernel_rfl) (by kernel_rfl) (by kernel_rfl) (fun _ _ _ h => h) (by rfl) (by assumption) ?_ ?_; rotate_left; · (intro w hSw; (try dsimp only at hSw); go_simp; (first | done | with_reducible rfl))))
        (try simp only [Act.put, List.setIfInBounds_toArray, List.set_cons_zero, List.set_cons_succ])
        refine wpAnyH_done (by kernel_rfl) ?_ _
        clear hHeld
        go_wp2
        refine ⟨⟨i + 1, L ++ [(nr, .slice FA nr.fails.length Fc)], by go_num, by rw [HN.out]; omega, by omega, by rw [take_flat HS.out]; exact HTW.out, by rw [List.length_append, List.length_singleton, HLI.out], ?_, ?_, HBE.out⟩, by simp [cntZ]; omega⟩
        · obtain ⟨hl9, e9⟩ := List.getElem?_eq_some_iff.1 HS.out
          rw [List.take_succ_eq_append_getElem hl9, List.map_append, List.map_append, List.map_append, HLM.out, e9]
          show _ ++ [nr] = _ ++ [nearS s]
          rw [HNS.out]
        · intro p hp
          obtain ⟨hl9, e9⟩ := List.getElem?_eq_some_iff.1 HS.out
          rw [List.take_succ_eq_append_getElem hl9, e9] at hp
          rcases List.mem_append.1 hp with hp | hp
          · exact HF4.out p hp
          · rw [List.mem_singleton] at hp; subst hp; exact HFL.out
    · have HLN := Lib.hid (show Lns (L.map (·.1)) from by
        rw [HLM.out]
        refine Lns.near fun s hs => ?_
        obtain ⟨p, hp, rfl⟩ := List.mem_map.1 hs
        exact (HFT.out p (List.mem_of_mem_take hp)).1)
      have hll : L.length ≤ 30 := by rw [HLI.out]; exact hi30
      have HPR := Lib.hid (print_lns HLN.out (by rw [List.length_map]; omega))
      have hpl := prA_len HLN.out
      rw [List.length_map] at hpl
      obtain ⟨lA, lc, rfl, hst⟩ := HTW.out.ls.sts
      obtain ⟨mA, mc, rfl, hst2⟩ := HTW.out.sts (by rw [HN.out]; exact hi) HL.out HBE.out
      have HOK1 := Lib.hid (fun p hp => (HTW.out.ls.faL p hp).1)
      have HFA1 := Lib.hid (fun p hp => (HTW.out.ls.faL p hp).2)
      have HOK2 := Lib.hid (show ∀ p ∈ l.take i, p.1.ok from fun p hp => (HFT.out p (List.mem_of_mem_take hp)).1)
      have HFA2 := Lib.hid (show ∀ p ∈ l.take i, p.1.fails.length ≤ 1000000 from fun p hp => by have := HF4.out p hp; omega)
      have HS1 := Lib.hid hst
      have HS2 := Lib.hid hst2
      have hml : (l.take i).length = i := by rw [List.length_take, HN.out]; omega
      obtain ⟨M9, hM9⟩ : ∃ M9, l.take i = M9 := ⟨_, rfl⟩
      rw [hM9] at HOK2 HFA2 HS2 hml
      have HK2 := Lib.hid hml
      have HPI := Lib.hid (lprint L lA lc HEW.out hst HOK1.out HFA1.out)
      obtain ⟨k, hk⟩ : ∃ k, L.length = k := ⟨_, rfl⟩
      have HK := Lib.hid hk
      obtain ⟨m, hm⟩ : ∃ m, L.map (·.1) = m := ⟨_, rfl⟩
      have HM := Lib.hid hm
      rw [hm] at HPI HPR hpl
      rw [hk] at HPI hpl
      obtain ⟨pa, hpa⟩ : ∃ x, prA m = x := ⟨_, rfl⟩
      rw [hpa] at HPR hpl
      have hkk : k ≤ 30 := by rw [← hk]; exact hll
      obtain ⟨q, hq⟩ : ∃ q, pa.length = q := ⟨_, rfl⟩
      rw [hq] at hpl
      rw [hk]
      have HQL := Lib.hid (show q ≤ 9000 by omega)
      clear hst hst2 hk hm hpa hll hi30 hml hM9 hkk hpl HTW HF4
      have g12 : (decide ((i : Int) < (n : Int)) = false ∧ decide (i < n) = false) ∨ (decide ((i : Int) < (n : Int)) = true ∧ decide (i < n) = true ∧ decide ((i : Int) < 30) = false ∧ decide (i < 30) = false) := by
        by_cases h1 : i < n
        · exact .inr ⟨decide_eq_true (by omega), decide_eq_true h1, decide_eq_false (fun h => hin ⟨h1, by omega⟩), decide_eq_false (fun h => hin ⟨h1, h⟩)⟩
        · exact .inl ⟨decide_eq_false (by omega), decide_eq_false h1⟩
      clear hin hi
      rcases g12 with ⟨g1, g1'⟩ | ⟨g1, g1', g2, g2'⟩
      · go_wp2_with fail
        clear g1 g1'
        refine HPI.out.mono ?_; rintro e w2 ⟨rfl, hb⟩
        rw [HPR.out]
        dsimp only
        replace HBE := Lib.hid (HBE.out.trans (hb.mono HBE.out.size))
        replace HEW := Lib.hid (HEW.out.below hb)
        replace HS1 := Lib.hid (HS1.out.below hb)
        replace HS1 := Lib.hid (HS1.out.more hb.size)
        replace HS2 := Lib.hid (HS2.out.below hb)
        replace HS2 := Lib.hid (HS2.out.more hb.size)
        clear hb HPI
        have HRI := Lib.hid (rprint L lA lc w2 HS1.out HOK1.out HFA1.out)
        rw [HK.out, HM.out] at HRI
        go_wp2_with fail
        refine HRI.out.mono ?_; rintro e w3 ⟨rfl, hb⟩
        rw [HPR.out]
        dsimp only
        replace HBE := Lib.hid (HBE.out.trans (hb.mono HBE.out.size))
        replace HEW := Lib.hid (HEW.out.below hb)
        replace HS2 := Lib.hid (HS2.out.below hb)
        replace HS2 := Lib.hid (HS2.out.more hb.size)
        clear hb HRI HS1
        have HPJ := Lib.hid (lprint M9 mA mc HEW.out HS2.out HOK2.out HFA2.out)
        rw [HK2.out] at HPJ
        go_wp2_with fail
        refine HPJ.out.mono ?_; rintro e w4 ⟨rfl, hb⟩
        replace HBE := Lib.hid (HBE.out.trans (hb.mono HBE.out.size))
        replace HEW := Lib.hid (HEW.out.below hb)
        replace HS2 := Lib.hid (HS2.out.below hb)
        replace HS2 := Lib.hid (HS2.out.more hb.size)
        clear hb HPJ
        have HPJ := Lib.hid (rprint M9 mA mc w4 HS2.out HOK2.out HFA2.out)
        rw [HK2.out] at HPJ
        obtain ⟨PX, hPX⟩ : ∃ PX, PrintS (M9.map (·.1)) = PX := ⟨_, rfl⟩
        unfold PrintIs at HPJ
        rw [hPX] at HPJ ⊢
        clear hPX
        obtain ⟨px, pe⟩ := PX
        dsimp only at HPJ ⊢
        go_wp2_with fail
        refine HPJ.out.mono ?_; rintro e w5 ⟨rfl, hb⟩
        replace HBE := Lib.hid (HBE.out.trans (hb.mono HBE.out.size))
        replace HEW := Lib.hid (HEW.out.below hb)
        clear hb HPJ HS2
        have q1 : (pa != pa) = false := by simp
        have q2 : (px != px) = false := by simp
        have q3 : (pe != pe) = false := by simp
        obtain ⟨x, hx1, hx2, hx3, hx4⟩ := tmodN a2 (q + 1) (by omega)
        obtain ⟨M, hM⟩ : ∃ M : Int, ((q + 1 : Nat) : Int) = M := ⟨_, rfl⟩
        rw [hM] at hx1 hx3 hx4
        obtain ⟨b, hb⟩ : ∃ b, Int.tmod a2 M = b := ⟨_, rfl⟩
        rw [hb] at hx1 hx3 hx4
        have HQ := Lib.hid hq
        have hql := HQL.out
        have hw0 : IntKind.i64.wrap ((q : Int) + 1) = M := by rw [IntWalk.i64_in _ (by omega)]; omega
        have hm0 : (M == 0) = false := beq_eq_false_iff_ne.2 (by omega)
        obtain ⟨b1, hb1⟩ : ∃ b1, b + (q : Int) = b1 := ⟨_, rfl⟩
        have hw1 : IntKind.i64.wrap b1 = b1 := IntWalk.i64_in _ (by omega)
        have hw2 : IntKind.i64.wrap (b1 + 1) = b + M := by rw [IntWalk.i64_in _ (by omega)]; omega
        have e0 := extract_bv pa 0 x
        rw [List.drop_zero] at e0
        have e2 := extract_bv pa x q
        rw [show pa.take q = pa from List.take_of_length_le (by omega)] at e2
        have lz3 : (x : Int) ≤ (q : Int) := by omega
        have li : x ≤ q := by omega
        obtain ⟨p, hp⟩ : ∃ p, pa.take x = p := ⟨_, rfl⟩
        obtain ⟨r, hr⟩ : ∃ p, pa.drop x = p := ⟨_, rfl⟩
        have lp : p.length ≤ 9000 := by rw [← hp, List.length_take]; omega
        have lr : r.length ≤ 9000 := by rw [← hr, List.length_drop]; omega
        have ltl := HTL.out
        rw [hp] at e0
        rw [hr] at e2
        obtain ⟨z1, hz1⟩ : ∃ z : Bs, p ++ t = z := ⟨_, rfl⟩
        obtain ⟨z, hz⟩ : ∃ z : Bs, z1 ++ r = z := ⟨_, rfl⟩
        have cat1 : (⟨p.toArray⟩ : ByteArray) ++ ⟨t.toArray⟩ = ⟨z1.toArray⟩ := by rw [← hz1]; exact (bv_app p t).symm
        have cat2 : (⟨z1.toArray⟩ : ByteArray) ++ ⟨r.toArray⟩ = ⟨z.toArray⟩ := by rw [← hz]; exact (bv_app z1 r).symm
        have lz1 : z1.length ≤ 9300 := by rw [← hz1, List.length_append]; omega
        have HZL := Lib.hid (show z.length ≤ 20000 by rw [← hz, List.length_append]; omega)
        have c1 : ¬ 9223372036854775807 < p.length + tn := by omega
        have c2 : ¬ 9223372036854775807 < z1.length + r.length := by omega
        clear hp hr hz1 hz
        go_upto_region 17 with fail
        clear hx1 hx3 hx4 hw0 hm0 hw1 hw2
        go_quiet (fail)
        replace HBE := Lib.hid (below_drewN HBE.out nq)
        replace HEW := Lib.hid (HEW.out.below (below_drewN (Below.refl w5.heap.size w5) nq))
        generalize w5.drewN nq = wq at *
        clear e0 e2 lz3 li lp lr ltl cat1 cat2 lz1 c1 c2 HQL HQ hq hql HM HK HK2 HOK1 HFA1 HOK2 HFA2
        go_wp2_with fail
        refine (lread z (by have := HZL.out; omega) HEW.out).mono ?_; rintro e w6 ⟨l2, v2, c2, k2, rfl, hr, hL2, hb⟩
        have HRS := Lib.hid hr
        obtain ⟨A2, cc2, rfl, hst2⟩ := hL2.sts
        have HS2 := Lib.hid hst2
        have HF2 := Lib.hid (fun p hp => (hL2.faL p hp).2)
        replace HBE := Lib.hid (HBE.out.trans (hb.mono HBE.out.size))
        replace HEW := Lib.hid (HEW.out.below hb)
        have hll := readS_len z
        rw [hr, List.length_map] at hll
        obtain ⟨n2, hn2⟩ : ∃ n, l2.length = n := ⟨_, rfl⟩
        rw [hn2] at hll ⊢
        have HN2 := Lib.hid hn2
        have HLL := Lib.hid hll
        clear hb hr hL2 hst2 hn2 hll
        go_wp2_with fail
        refine (rread z (by have := HZL.out; omega) w6).mono ?_; rintro e w7 ⟨l3, v3, c3, k3, rfl, hr, hL3, hb⟩
        rw [HRS.out] at hr
        injection hr with h1 h2
        injection h2 with h2 h3
        subst h2 h3
        have HM3 := Lib.hid h1
        obtain ⟨A3, cc3, rfl, hst3⟩ := hL3.sts
        have HS3 := Lib.hid hst3
        have HF3 := Lib.hid (fun p hp => (hL3.faL p hp).2)
        have hn3 : l3.length = n2 := by
          have := congrArg List.length h1
          rw [List.length_map, List.length_map, HN2.out] at this
          exact this.symm
        rw [hn3]
        have HN3 := Lib.hid hn3
        replace HBE := Lib.hid (HBE.out.trans (hb.mono HBE.out.size))
        replace HEW := Lib.hid (HEW.out.below hb)
        replace HS2 := Lib.hid ((HS2.out.below hb).more hb.size)
        clear hb h1 hL3 hst3 hn3
        go_wp2_with fail
        refine (told_any HEW.out).mono ?_; rintro e w8 ⟨rfl, hb⟩
        replace HBE := Lib.hid (HBE.out.trans (hb.mono HBE.out.size))
        replace HS2 := Lib.hid ((HS2.out.below hb).more hb.size)
        replace HS3 := Lib.hid ((HS3.out.below hb).more hb.size)
        clear hb
        have HAL := Lib.hid (rall l2 l3 A2 A3 cc2 cc3 w8 HS2.out HS3.out (by rw [HN2.out]; have := HLL.out; omega) (by rw [HN3.out]; have := HLL.out; omega) HF2.out HF3.out)
        rw [HN2.out, HN3.out, HM3.out, decide_eq_true (rfl : l3.map (·.1) = l3.map (·.1))] at HAL
        go_wp2_with fail
        refine HAL.out.mono ?_; rintro e w9 ⟨rfl, hb⟩
        replace HBE := Lib.hid (HBE.out.trans (hb.mono HBE.out.size))
        clear hb HAL
        have q4 : (c2 == c2) = true := beq_self_eq_true _
        have q5 : ((k2 : Int) == (k2 : Int)) = true := beq_self_eq_true _
        go_wp2
        go_ret
        exact ⟨rfl, HBE.out⟩
      · go_wp2_with fail
        clear g1 g1' g2 g2'
        refine HPI.out.mono ?_; rintro e w2 ⟨rfl, hb⟩
        rw [HPR.out]
        dsimp only
        replace HBE := Lib.hid (HBE.out.trans (hb.mono HBE.out.size))
        replace HEW := Lib.hid (HEW.out.below hb)
        replace HS1 := Lib.hid (HS1.out.below hb)
        replace HS1 := Lib.hid (HS1.out.more hb.size)
        replace HS2 := Lib.hid (HS2.out.below hb)
        replace HS2 := Lib.hid (HS2.out.more hb.size)
        clear hb HPI
        have HRI := Lib.hid (rprint L lA lc w2 HS1.out HOK1.out HFA1.out)
        rw [HK.out, HM.out] at HRI
        go_wp2_with fail
        refine HRI.out.mono ?_; rintro e w3 ⟨rfl, hb⟩
        rw [HPR.out]
        dsimp only
        replace HBE := Lib.hid (HBE.out.trans (hb.mono HBE.out.size))
        replace HEW := Lib.hid (HEW.out.below hb)
        replace HS2 := Lib.hid (HS2.out.below hb)
        replace HS2 := Lib.hid (HS2.out.more hb.size)
        clear hb HRI HS1
        have HPJ := Lib.hid (lprint M9 mA mc HEW.out HS2.out HOK2.out HFA2.out)
        rw [HK2.out] at HPJ
        go_wp2_with fail
        refine HPJ.out.mono ?_; rintro e w4 ⟨rfl, hb⟩
        replace HBE := Lib.hid (HBE.out.trans (hb.mono HBE.out.size))
        replace HEW := Lib.hid (HEW.out.below hb)
        replace HS2 := Lib.hid (HS2.out.below hb)
        replace HS2 := Lib.hid (HS2.out.more hb.size)
        clear hb HPJ
        have HPJ := Lib.hid (rprint M9 mA mc w4 HS2.out HOK2.out HFA2.out)
        rw [HK2.out] at HPJ
        obtain ⟨PX, hPX⟩ : ∃ PX, PrintS (M9.map (·.1)) = PX := ⟨_, rfl⟩
        unfold PrintIs at HPJ
        rw [hPX] at HPJ ⊢
        clear hPX
        obtain ⟨px, pe⟩ := PX
        dsimp only at HPJ ⊢
        go_wp2_with fail
        refine HPJ.out.mono ?_; rintro e w5 ⟨rfl, hb⟩
        replace HBE := Lib.hid (HBE.out.trans (hb.mono HBE.out.size))
        replace HEW := Lib.hid (HEW.out.below hb)
        clear hb HPJ HS2
        have q1 : (pa != pa) = false := by simp
        have q2 : (px != px) = false := by simp
        have q3 : (pe != pe) = false := by simp
        obtain ⟨x, hx1, hx2, hx3, hx4⟩ := tmodN a2 (q + 1) (by omega)
        obtain ⟨M, hM⟩ : ∃ M : Int, ((q + 1 : Nat) : Int) = M := ⟨_, rfl⟩
        rw [hM] at hx1 hx3 hx4
        obtain ⟨b, hb⟩ : ∃ b, Int.tmod a2 M = b := ⟨_, rfl⟩
        rw [hb] at hx1 hx3 hx4
        have HQ := Lib.hid hq
        have hql := HQL.out
        have hw0 : IntKind.i64.wrap ((q : Int) + 1) = M := by rw [IntWalk.i64_in _ (by omega)]; omega
        have hm0 : (M == 0) = false := beq_eq_false_iff_ne.2 (by omega)
        obtain ⟨b1, hb1⟩ : ∃ b1, b + (q : Int) = b1 := ⟨_, rfl⟩
        have hw1 : IntKind.i64.wrap b1 = b1 := IntWalk.i64_in _ (by omega)
        have hw2 : IntKind.i64.wrap (b1 + 1) = b + M := by rw [IntWalk.i64_in _ (by omega)]; omega
        have e0 := extract_bv pa 0 x
        rw [List.drop_zero] at e0
        have e2 := extract_bv pa x q
        rw [show pa.take q = pa from List.take_of_length_le (by omega)] at e2
        have lz3 : (x : Int) ≤ (q : Int) := by omega
        have li : x ≤ q := by omega
        obtain ⟨p, hp⟩ : ∃ p, pa.take x = p := ⟨_, rfl⟩
        obtain ⟨r, hr⟩ : ∃ p, pa.drop x = p := ⟨_, rfl⟩
        have lp : p.length ≤ 9000 := by rw [← hp, List.length_take]; omega
        have lr : r.length ≤ 9000 := by rw [← hr, List.length_drop]; omega
        have ltl := HTL.out
        rw [hp] at e0
        rw [hr] at e2
        obtain ⟨z1, hz1⟩ : ∃ z : Bs, p ++ t = z := ⟨_, rfl⟩
        obtain ⟨z, hz⟩ : ∃ z : Bs, z1 ++ r = z := ⟨_, rfl⟩
        have cat1 : (⟨p.toArray⟩ : ByteArray) ++ ⟨t.toArray⟩ = ⟨z1.toArray⟩ := by rw [← hz1]; exact (bv_app p t).symm
        have cat2 : (⟨z1.toArray⟩ : ByteArray) ++ ⟨r.toArray⟩ = ⟨z.toArray⟩ := by rw [← hz]; exact (bv_app z1 r).symm
        have lz1 : z1.length ≤ 9300 := by rw [← hz1, List.length_append]; omega
        have HZL := Lib.hid (show z.length ≤ 20000 by rw [← hz, List.length_append]; omega)
        have c1 : ¬ 9223372036854775807 < p.length + tn := by omega
        have c2 : ¬ 9223372036854775807 < z1.length + r.length := by omega
        clear hp hr hz1 hz
        go_upto_region 17 with fail
        clear hx1 hx3 hx4 hw0 hm0 hw1 hw2
        go_quiet (fail)
        replace HBE := Lib.hid (below_drewN HBE.out nq)
        replace HEW := Lib.hid (HEW.out.below (below_drewN (Below.refl w5.heap.size w5) nq))
        generalize w5.drewN nq = wq at *
        clear e0 e2 lz3 li lp lr ltl cat1 cat2 lz1 c1 c2 HQL HQ hq hql HM HK HK2 HOK1 HFA1 HOK2 HFA2
        go_wp2_with fail
        refine (lread z (by have := HZL.out; omega) HEW.out).mono ?_; rintro e w6 ⟨l2, v2, c2, k2, rfl, hr, hL2, hb⟩
        have HRS := Lib.hid hr
        obtain ⟨A2, cc2, rfl, hst2⟩ := hL2.sts
        have HS2 := Lib.hid hst2
        have HF2 := Lib.hid (fun p hp => (hL2.faL p hp).2)
        replace HBE := Lib.hid (HBE.out.trans (hb.mono HBE.out.size))
        replace HEW := Lib.hid (HEW.out.below hb)
        have hll := readS_len z
        rw [hr, List.length_map] at hll
        obtain ⟨n2, hn2⟩ : ∃ n, l2.length = n := ⟨_, rfl⟩
        rw [hn2] at hll ⊢
        have HN2 := Lib.hid hn2
        have HLL := Lib.hid hll
        clear hb hr hL2 hst2 hn2 hll
        go_wp2_with fail
        refine (rread z (by have := HZL.out; omega) w6).mono ?_; rintro e w7 ⟨l3, v3, c3, k3, rfl, hr, hL3, hb⟩
        rw [HRS.out] at hr
        injection hr with h1 h2
        injection h2 with h2 h3
        subst h2 h3
        have HM3 := Lib.hid h1
        obtain ⟨A3, cc3, rfl, hst3⟩ := hL3.sts
        have HS3 := Lib.hid hst3
        have HF3 := Lib.hid (fun p hp => (hL3.faL p hp).2)
        have hn3 : l3.length = n2 := by
          have := congrArg List.length h1
          rw [List.length_map, List.length_map, HN2.out] at this
          exact this.symm
        rw [hn3]
        have HN3 := Lib.hid hn3
        replace HBE := Lib.hid (HBE.out.trans (hb.mono HBE.out.size))
        replace HEW := Lib.hid (HEW.out.below hb)
        replace HS2 := Lib.hid ((HS2.out.below hb).more hb.size)
        clear hb h1 hL3 hst3 hn3
        go_wp2_with fail
        refine (told_any HEW.out).mono ?_; rintro e w8 ⟨rfl, hb⟩
        replace HBE := Lib.hid (HBE.out.trans (hb.mono HBE.out.size))
        replace HS2 := Lib.hid ((HS2.out.below hb).more hb.size)
        replace HS3 := Lib.hid ((HS3.out.below hb).more hb.size)
        clear hb
        have HAL := Lib.hid (rall l2 l3 A2 A3 cc2 cc3 w8 HS2.out HS3.out (by rw [HN2.out]; have := HLL.out; omega) (by rw [HN3.out]; have := HLL.out; omega) HF2.out HF3.out)
        rw [HN2.out, HN3.out, HM3.out, decide_eq_true (rfl : l3.map (·.1) = l3.map (·.1))] at HAL
        go_wp2_with fail
        refine HAL.out.mono ?_; rintro e w9 ⟨rfl, hb⟩
        replace HBE := Lib.hid (HBE.out.trans (hb.mono HBE.out.size))
        clear hb HAL
        have q4 : (c2 == c2) = true := beq_self_eq_true _
        have q5 : ((k2 : Int) == (k2 : Int)) = true := beq_self_eq_true _
        go_wp2
        go_ret
        exact ⟨rfl, HBE.out⟩
end Go.Proofs.YtjofegjiakjjhaaDoor
