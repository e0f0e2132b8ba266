/- The document's own answer for package index: Alike. -/
import Derived.Test.YtkpngkdkkcadfaaIrg
namespace Go.Proofs.Ytkpngkdkkcadfaa
open Go.RowKit Mk

/-- Groups in memory. -/
structure OutR (wr : World) (B : Nat) (us : List Gr) (vo : Value) : Prop where
  row : wr.ownsRow B 48 1 vo us.length (us.map uv)
  own : ∀ u ∈ us, wr.ownsRow B 3 1 (uv u) u.2.1.length (u.2.1.map iv)
  ne : ∀ u ∈ us, some u.1 ≠ vo.ownBlock
theorem OutR.below {wr w' : World} {B : Nat} {us : List Gr} {vo : Value} (h : OutR wr B us vo) (hb : Below wr.heap.size wr w') : OutR w' B us vo := ⟨own_below h.row hb, fun u hu => own_below (h.own u hu) hb, h.ne⟩
theorem OutR.nil (wr : World) (B : Nat) : OutR wr B [] (.slice none 0 0) := ⟨World.ownsRow_nil _ _ _ _, fun u h => (by cases h), fun u h => (by cases h)⟩
theorem OutR.more {wr wa w4 : World} {B g cap : Nat} {us : List Gr} {vo v4 : Value} {l : List Int} (h : OutR wr B us vo) (hb : Below wr.heap.size wr wa) (hn : wa.ownsRow wr.heap.size 3 1 (.slice (some ⟨g, 0, none⟩) l.length cap) l.length (l.map iv)) (hB : B ≤ wr.heap.size)
    (hrow : w4.ownsRow B 48 1 v4 (us.length + 1) (us.map uv ++ [.slice (some ⟨g, 0, none⟩) l.length cap])) (hg : wa.grownBy w4 vo.ownBlock) (hat : v4.ownBlock = vo.ownBlock ∨ v4.ownBlock = some wa.heap.size) : OutR w4 B (us ++ [(g, l, cap)]) v4 := by
  have hub : ∀ g, vo.ownBlock = some g → g < wr.heap.size := fun g hg => (h.row.lt g hg).2
  have hgl := hn.lt g rfl
  refine ⟨by rw [List.length_append, List.map_append]; exact hrow, fun u hu => ?_, fun u hu => ?_⟩
  · rcases List.mem_append.1 hu with hu | hu
    · exact (own_below (h.own u hu) hb).kept hg (.inr (h.ne u hu))
    · rw [List.mem_singleton] at hu; subst hu
      exact (ownsRow_mono hn hB).kept hg (.inr fun e => by have := hub g e.symm; omega)
  · rcases List.mem_append.1 hu with hu | hu
    · have h9 := (h.own u hu).lt u.1 rfl
      rcases hat with e | e
      · rw [e]; exact h.ne u hu
      · rw [e]; intro e2; have := Option.some.inj e2; have := hb.size; omega
    · rw [List.mem_singleton] at hu; subst hu
      rcases hat with e | e
      · rw [e]; intro e2; have := hub g e2.symm; omega
      · rw [e]; intro e2; have := Option.some.inj e2; simp at this; omega
def RaR (w : World) (xs : List Is) (n : Nat) (vo vi : Value) (wr : World) : Prop := ∃ (i : Nat) (us : List Gr), vi = .int .i64 i ∧ i ≤ n ∧ OutR wr w.heap.size us vo ∧ AkS xs i (us.map (·.2.1)) ∧ us.length ≤ i ∧ Below w.heap.size w wr
def FstB (b : Bool) (xs : List Is) (k : Nat) (z : Cx) : Prop := b = true ↔ Fst xs k z
def RaF (wo : World) (xs : List Is) (z : Cx) (i : Nat) (vb vk : Value) (wr : World) : Prop := ∃ (k : Nat) (b : Bool), vb = .bool b ∧ vk = .int .i64 k ∧ k ≤ i ∧ FstB b xs k z ∧ ∃ q, wr = wo.drewN q
def RaG (wo : World) (xs : List Is) (z : Cx) (i n : Nat) (vg vk : Value) (wr : World) : Prop := ∃ k : Nat, vk = .int .i64 k ∧ i ≤ k ∧ k ≤ n ∧ wr.ownsRow wo.heap.size 3 1 vg (gl (xs.take k) z).length ((gl (xs.take k) z).map iv) ∧ Below wo.heap.size wo wr
theorem infoI2 : (Try.prog.info? 3).map (fun i => (i.zero, i.size, i.bytes)) = some (some (.int .i64 0), 1, 8) := by kernel_rfl
theorem Fst.step {xs : List Is} {k : Nat} {z : Cx} {y : Is} (hy : xs[k]? = some y) : Fst xs (k + 1) z ↔ Fst xs k z ∧ y.2 ≠ z := by
  constructor
  · intro h
    exact ⟨fun j x hj hx => h j x (by omega) hx, h k y (by omega) hy⟩
  · rintro ⟨h1, h2⟩ j x hj hx
    by_cases e : j = k
    · subst e; rw [hy] at hx; cases hx; exact h2
    · exact h1 j x (by omega) hx
set_option maxRecDepth 100000 in
set_option maxHeartbeats 8000000 in
theorem rxalike {w : World} {W c : Nat} {vF v : Value} {xs : List Is} {S : Ki → Option Cx} {G : Int → Nat → Nat} {N : Nat → Prop} (h : RX w W c vF v xs G N) (hs : XSim xs S) (hd : D12 S) :
    Calls Try.prog 21 #[.pointer (some ⟨c, 0, none⟩)] w (AlIs w S) := by
  have hn := hs.len hd
  obtain ⟨A, cc, rfl⟩ := h.own.form
  obtain ⟨n, hnn⟩ : ∃ n, xs.length = n := ⟨_, rfl⟩
  rw [hnn] at hn
  rw [hnn] at h
  have HN := Lib.hid hnn
  have HR0 := Lib.hid h
  have HS := Lib.hid hs
  obtain ⟨i0, hi0, hz0', hz1, hz2⟩ := info_parts infoI2
  obtain ⟨i1, hi1, hy0', hy1, hy2⟩ := info_parts infoS
  clear h hs hd hnn
  go_enter Try.func21, Try.ntmps21
  go_wp2_with fail
  go_loopw [3, 4] (RaR w xs n) (fun _ v _ => n - cntI v)
  case atStart => exact ⟨0, [], rfl, Nat.zero_le _, OutR.nil _ _, AkS.zero _, Nat.le_refl _, Below.refl _ _⟩
  case round =>
    obtain ⟨i, us, rfl, hi, hout, hak, hul, hbe⟩ := hrel
    have HO := Lib.hid hout
    have HA := Lib.hid hak
    have HB := Lib.hid hbe
    have hWr := hbe.size
    clear hout hak hbe
    obtain ⟨wo, rfl⟩ : ∃ wo : World, wo = wr := ⟨_, rfl⟩
    have HR := Lib.hid (HR0.out.below (HB.out.mono (Nat.le_refl _)))
    have c1 := HR.out.c1
    by_cases hin : i < n
    · have g1 : decide ((i : Int) < (n : Int)) = true := by simp; exact hin
      have g1' : decide (i < n) = true := by simp; exact hin
      have hin2 : (i : Int) < (n : Int) := by omega
      obtain ⟨⟨f', z'⟩, hx⟩ : ∃ x, xs[i]? = some x := ⟨_, List.getElem?_eq_getElem (by rw [HN.out]; exact hin)⟩
      obtain ⟨gi, rfl, d0, d1'⟩ := HR.out.own.cells hx
      have HX := Lib.hid hx
      obtain ⟨a', b', hzv⟩ : ∃ a b, cxV z' = .complex .f64 a b := ⟨_, _, rfl⟩
      have d1 : wo.cell? ⟨gi, i * 2 + 1, none⟩ = some (.complex .f64 a' b') := by rw [← hzv]; exact d1'
      have HZV := Lib.hid hzv
      have HIN := Lib.hid hin
      clear d0 d1' hx hzv
      go_wp2_with fail
      go_loopw [5, 6] (RaF wo xs z' i) (fun _ v _ => i - cntI v)
      case atStart => exact ⟨0, true, rfl, rfl, Nat.zero_le _, ⟨fun _ j x hj => by omega, fun _ => rfl⟩, 0, rfl⟩
      case round =>
        obtain ⟨k, b, rfl, rfl, hk, hb, q, rfl⟩ := hrel
        have HF := Lib.hid hb
        clear hb
        by_cases hki : k < i
        · have r1 : decide ((k : Int) < (i : Int)) = true := by simp; exact hki
          have r1' : decide (k < i) = true := by simp; exact hki
          have hkn2 : (k : Int) < (n : Int) := by have := HIN.out; omega
          cases b with
          | false =>
            obtain ⟨y, hy⟩ : ∃ x, xs[k]? = some x := ⟨_, List.getElem?_eq_getElem (by rw [HN.out]; have := HIN.out; omega)⟩
            have HFN := Lib.hid (show FstB false xs (k + 1) z' from ⟨fun h => (by cases h), fun h => HF.out.2 ((Fst.step hy).1 h).1⟩)
            clear hy
            go_wp2_with fail
            go_quiet (fail)
            go_wp2
            go_roundw
            case rel => exact ⟨k + 1, false, rfl, by go_num, by omega, HFN.out, _, rfl⟩
            case measure => simp [cntI]; omega
          | true =>
            obtain ⟨⟨f2, z2⟩, hy⟩ : ∃ x, xs[k]? = some x := ⟨_, List.getElem?_eq_getElem (by rw [HN.out]; have := HIN.out; omega)⟩
            obtain ⟨g2, hg2, _, e1'⟩ := HR.out.own.cells hy
            cases hg2
            obtain ⟨a2, b2, a3, b3, e2, e3, hcs⟩ := cx_cmp z2 z'
            rw [HZV.out] at e3
            cases e3
            have e1 : wo.cell? ⟨gi, k * 2 + 1, none⟩ = some (.complex .f64 a2 b2) := by rw [← e2]; exact e1'
            have HFS := Lib.hid (Fst.step (z := z') hy)
            clear e1' e2 hy
            rcases hcs with ⟨hzz, o1, o2⟩ | ⟨hzz, o1, o2⟩ | ⟨hzz, o1, _, o2⟩
            · have HFN := Lib.hid (show FstB false xs (k + 1) z' from ⟨fun h => (by cases h), fun h => absurd hzz (HFS.out.1 h).2⟩)
              clear hzz
              go_wp2_with fail
              go_quiet (fail)
              go_wp2
              go_roundw
              case rel => exact ⟨k + 1, false, rfl, by go_num, by omega, HFN.out, _, rfl⟩
              case measure => simp [cntI]; omega
            · have HFN := Lib.hid (show FstB true xs (k + 1) z' from ⟨fun _ => HFS.out.2 ⟨HF.out.1 rfl, hzz⟩, fun _ => rfl⟩)
              clear hzz
              go_wp2_with fail
              go_quiet (fail)
              go_wp2
              go_roundw
              case rel => exact ⟨k + 1, true, rfl, by go_num, by omega, HFN.out, _, rfl⟩
              case measure => simp [cntI]; omega
            · have HFN := Lib.hid (show FstB true xs (k + 1) z' from ⟨fun _ => HFS.out.2 ⟨HF.out.1 rfl, hzz⟩, fun _ => rfl⟩)
              clear hzz
              go_wp2_with fail
              go_quiet (fail)
              go_wp2
              go_roundw
              case rel => exact ⟨k + 1, true, rfl, by go_num, by omega, HFN.out, _, rfl⟩
              case measure => simp [cntI]; omega
        · obtain rfl : k = i := by omega
          have r1 : decide ((k : Int) < (k : Int)) = false := by simp
          cases b with
          | false =>
            have HNF := Lib.hid (show ¬ Fst xs k z' from fun h => (by have := HF.out.2 h; cases this))
            have hb2 := below_drewN (Below.refl wo.heap.size wo) q
            replace HO := Lib.hid (HO.out.below hb2)
            replace HB := Lib.hid (HB.out.trans (hb2.mono HB.out.size))
            have c1 : (wo.drewN q).cell? ⟨c, 1, none⟩ = _ := c1
            generalize wo.drewN q = w2 at *
            clear hb2 HF d1
            go_wp2_with fail
            refine wp_loop_rounds 1 ?_
            rw [rounds_succ]
            go_wp2
            go_roundw
            case rel => exact ⟨k + 1, us, by go_num, by omega, HO.out, HA.out.skip HX.out (.inl HNF.out), by omega, HB.out⟩
            case measure => simp [cntI]; omega
          | true =>
            have HFT := Lib.hid (HF.out.1 rfl)
            have hb2 := below_drewN (Below.refl wo.heap.size wo) q
            have HR2 := Lib.hid (HR.out.below hb2)
            replace HO := Lib.hid (HO.out.below hb2)
            replace HB := Lib.hid (HB.out.trans (hb2.mono HB.out.size))
            have c1 : (wo.drewN q).cell? ⟨c, 1, none⟩ = _ := c1
            have hWr2 : w.heap.size ≤ (wo.drewN q).heap.size := hWr
            generalize wo.drewN q = w2 at *
            clear hb2 HF d1 HR hWr
            go_wp2_with fail
            go_loopw [7, 8] (RaG w2 xs z' k n) (fun _ v _ => n - cntI v)
            case atStart => exact ⟨k, rfl, Nat.le_refl _, by omega, by rw [gl_fst HFT.out]; exact World.ownsRow_nil _ _ _ _, Below.refl _ _⟩
            case round =>
              obtain ⟨t, rfl, ht1, ht2, hg, hbg⟩ := hrel
              have HG := Lib.hid hg
              have HBG := Lib.hid hbg
              have HRt := Lib.hid (HR2.out.below hbg)
              have ht3 := hbg.size
              have c1t := HRt.out.c1
              clear hg hbg
              by_cases htn : t < n
              · have r3 : decide ((t : Int) < (n : Int)) = true := by simp; exact htn
                have r3' : decide (t < n) = true := by simp; exact htn
                have htn2 : (t : Int) < (n : Int) := by omega
                obtain ⟨⟨f2, z2⟩, hy⟩ : ∃ x, xs[t]? = some x := ⟨_, List.getElem?_eq_getElem (by rw [HN.out]; exact htn)⟩
                obtain ⟨g2, hg2, e0', e1'⟩ := HRt.out.own.cells hy
                cases hg2
                obtain ⟨g3, hg3, _, e4'⟩ := HRt.out.own.cells HX.out
                cases hg3
                obtain ⟨a2, b2, a3, b3, e2, e3, hcs⟩ := cx_cmp z2 z'
                have e0 : wr.cell? ⟨gi, t * 2, none⟩ = some (.int .i64 f2) := e0'
                have e1 : wr.cell? ⟨gi, t * 2 + 1, none⟩ = some (.complex .f64 a2 b2) := by rw [← e2]; exact e1'
                have e4 : wr.cell? ⟨gi, k * 2 + 1, none⟩ = some (.complex .f64 a3 b3) := by rw [← e3]; exact e4'
                have HY := Lib.hid hy
                have hll := gl_len (xs.take t) z'
                rw [List.length_take, HN.out] at hll
                clear e0' e1' e2 e3 e4' hy
                have hkn2 : (k : Int) < (n : Int) := by omega
                rcases hcs with ⟨hzz, o1, o2⟩ | ⟨hzz, o1, o2⟩ | ⟨hzz, o1, _, o2⟩
                · have HZZ := Lib.hid hzz
                  clear hzz
                  go_wp2_with fail
                  go_quiet (fail)
                  have hb3 := below_drewN (Below.refl wr.heap.size wr) nq
                  replace HG := Lib.hid (own_below HG.out hb3)
                  replace HBG := Lib.hid (HBG.out.trans (hb3.mono (by omega)))
                  have e0 : (wr.drewN nq).cell? ⟨gi, t * 2, none⟩ = _ := e0
                  have c1t : (wr.drewN nq).cell? ⟨c, 1, none⟩ = _ := c1t
                  have ht3 : w2.heap.size ≤ (wr.drewN nq).heap.size := ht3
                  clear hb3 e1 e4
                  generalize wr.drewN nq = w3 at *
                  go_wp2_with (first
                    | (at_builtin; refine wpList_append_any _ rfl (.tmp 73) (.tmp 82) _ rfl w2.heap.size 3 i0 _ 1 8 Try.underlying48 hi0 hz0' hz1 hz2 rfl (by omega) u7 _ _ rfl (HG.out.alloc _) _ (some ⟨w3.heap.size, 0, none⟩) 1 1 [.int .i64 f2] rfl (reads_one1 w3 _ _) (by simp; rfl) (by unfold maxLen; omega) (by omega) (by simp; omega) ?_; intro v4 w4 hown4 hg4 hat4)
                    | go_in)
                  go_roundw
                  case rel =>
                    refine ⟨t + 1, by go_num, by omega, by omega, ?_, HBG.out.trans (((Below.refl _ _).alloc (by omega) _).grown hg4 (by simp; omega) (fun g hg => (HG.out.lt g hg).1))⟩
                    rw [gl_take_yes HY.out HZZ.out, List.length_append, List.map_append]
                    exact hown4
                  case measure => simp [cntI]; omega
                · have HNX := Lib.hid (gl_take_no HY.out hzz)
                  clear hzz
                  go_wp2_with fail
                  go_quiet (fail)
                  go_wp2
                  go_roundw
                  case rel => exact ⟨t + 1, by go_num, by omega, by omega, by rw [HNX.out]; exact own_below HG.out (below_drewN (Below.refl _ _) _), below_drewN HBG.out _⟩
                  case measure => simp [cntI]; omega
                · have HNX := Lib.hid (gl_take_no HY.out hzz)
                  clear hzz
                  go_wp2_with fail
                  go_quiet (fail)
                  go_wp2
                  go_roundw
                  case rel => exact ⟨t + 1, by go_num, by omega, by omega, by rw [HNX.out]; exact own_below HG.out (below_drewN (Below.refl _ _) _), below_drewN HBG.out _⟩
                  case measure => simp [cntI]; omega
              · obtain rfl : t = n := by omega
                have r3 : decide ((t : Int) < (t : Int)) = false := by simp
                have hG9 := HG.out
                rw [List.take_of_length_le (by have := HN.out; omega)] at hG9
                have hll := gl_len xs z'
                rw [HN.out] at hll
                obtain ⟨Ag, cg, rfl, _⟩ := own_forms hG9
                obtain ⟨L, hL⟩ : ∃ L, (gl xs z').length = L := ⟨_, rfl⟩
                replace HG := Lib.hid hG9
                have HL := Lib.hid hL
                rw [hL] at hll ⊢
                clear hL hG9
                by_cases hL1 : 1 < L
                · have r4 : decide ((L : Int) > 1) = true := by simp; omega
                  have r4' : decide ((1 : Int) < (L : Int)) = true := by simp; omega
                  obtain ⟨g, cap, e, _, _⟩ := HG.out.form (by have := HL.out; omega)
                  injection e with e1 e2 e3
                  subst e1 e3
                  clear e2
                  have HL1 := Lib.hid hL1
                  clear hL1
                  go_wp2_with (first
                    | (at_builtin; refine wpList_append_any _ rfl (.tmp 87) (.tmp 89) _ rfl w.heap.size 48 i1 _ 1 24 Try.underlying51 hi1 hy0' hy1 hy2 rfl (by omega) u3 _ _ rfl ((own_below (HO.out.below (HBG.out.mono (Nat.le_refl _))).row (Below.refl _ _)).alloc _) _ (some ⟨wr.heap.size, 0, none⟩) 1 1 [.slice (some ⟨g, 0, none⟩) L cg] rfl (reads_one1 wr _ _) (by simp; rfl) (by unfold maxLen; omega) (by omega) (by simp; omega) ?_; intro v4 w4 hown4 hg4 hat4)
                    | go_in)
                  have hl9 := HL.out
                  subst hl9
                  have hba := HBG.out.alloc ht3 (.cells #[.slice (some ⟨g, 0, none⟩) (gl xs z').length cg] 48)
                  have hub : ∀ g, u3.ownBlock = some g → w.heap.size ≤ g := fun g hg => (HO.out.row.lt g hg).1
                  go_roundw
                  case rel =>
                    refine ⟨k + 1, us ++ [(g, gl xs z', cg)], by go_num, by omega, HO.out.more hba (HG.out.alloc _) hWr2 hown4 hg4 hat4, ?_, by rw [List.length_append]; simp; omega, (HB.out.trans (hba.mono hWr2)).grown hg4 (by simp; omega) hub⟩
                    rw [List.map_append]
                    exact HA.out.more HS.out HX.out HFT.out HL1.out
                  case measure => simp [cntI]; omega
                · have r4 : decide ((L : Int) > 1) = false := by simp; omega
                  have r4' : decide ((1 : Int) < (L : Int)) = false := by simp; omega
                  have HL1 := Lib.hid hL1
                  clear hL1
                  go_wp2
                  go_roundw
                  case rel => exact ⟨k + 1, us, by go_num, by omega, HO.out.below HBG.out, HA.out.skip HX.out (.inr (by rw [HL.out]; exact HL1.out)), by omega, HB.out.trans (HBG.out.mono hWr2)⟩
                  case measure => simp [cntI]; omega
    · obtain rfl : i = n := by omega
      have g1 : decide ((i : Int) < (i : Int)) = false := by simp
      go_wp2
      go_ret
      exact ⟨_, us, rfl, HO.out.row, HO.out.own, HA.out.all HN.out HS.out, HB.out⟩
end Go.Proofs.Ytkpngkdkkcadfaa
