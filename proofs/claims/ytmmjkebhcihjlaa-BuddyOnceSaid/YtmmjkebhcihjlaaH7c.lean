/- The walk of the statement BuddyOnce: it returns true. -/
import Derived.Test.YtmmjkebhcihjlaaBuz
namespace Go.Proofs.Ytmmjkebhcihjlaa
open Go.RowKit

/-- The rounds. -/
def OnR (w : World) (c fi n gw : Nat) (vl vi : Value) (wr : World) : Prop := ∃ (i : Nat) (S : Nat → Bool) (B : Nat → Prop) (F : Nat → Bool), vi = .int .i64 i ∧ vl = .int .i64 (cntS S fi n : Nat) ∧ i ≤ 80 ∧ Ls w wr c fi n S B gw F ∧ ∀ j, j < n → F j = !S (fi + j)
/-- The greatest order. -/
def Mst (l : List (Nat × Nat)) (M : Int) : Prop := (∀ x ∈ l, (x.2 : Int) ≤ M) ∧ (M = -1 ∨ ∃ x ∈ l, (x.2 : Int) = M)
theorem Mst.snoc {l : List (Nat × Nat)} {M : Int} {f p : Nat} (h : Mst l M) : Mst (l ++ [(f, p)]) (max M (p : Int)) := by
  refine ⟨fun x hx => ?_, ?_⟩
  · rcases List.mem_append.1 hx with hx | hx
    · have := h.1 x hx; omega
    · rw [List.mem_singleton.1 hx]
      show (p : Int) ≤ _
      omega
  · by_cases hp : M ≤ (p : Int)
    · exact .inr ⟨(f, p), List.mem_append_right _ (List.mem_singleton.2 rfl), by show (p : Int) = _; omega⟩
    · rw [show max M (p : Int) = M by omega]
      rcases h.2 with h2 | ⟨x, hx, e⟩
      · exact .inl h2
      · exact .inr ⟨x, List.mem_append_left _ hx, e⟩
def MsR (ts : List (Nat × Nat)) (wo : World) (vm vi : Value) (wr : World) : Prop := ∃ (i : Nat) (M : Int), vi = .int .i64 i ∧ vm = .int .i64 M ∧ i ≤ ts.length ∧ -1 ≤ M ∧ M ≤ 9 ∧ Mst (ts.take i) M ∧ ∃ q, wr = wo.drewN q
/-- The frames are marked. -/
def MkR (w : World) (c fi n : Nat) (S : Nat → Bool) (B : Nat → Prop) (gw d t : Nat) (F : Nat → Bool) (v : Value) (wr : World) : Prop := ∃ (k : Nat) (G : Nat → Bool), v = .int .i64 k ∧ k ≤ t ∧ Ls w wr c fi n S B gw G ∧ ∀ j, G j = (F j || (decide (d ≤ j) && decide (j < d + k)))

set_option maxRecDepth 100000 in
set_option maxHeartbeats 8000000 in
theorem buddyOnce_walk (A0 A1 : Int) (A : Option Addr) (m c : Nat) (xs : List Value) (w : World) (hr : Reads w w.heap.size 1 A m xs) (hx : ∀ u ∈ xs, ∃ i, u = .int .i64 i ∧ (Lit.int .i64 i).wf = true) :
    Calls Try.prog 4 #[.int .i64 A0, .int .i64 A1, .slice A m c] w fun e w' => e = .returned (.bool true) ∧ Below w.heap.size w w' := by
  have HR := Lib.hid hr
  have HX := Lib.hid hx
  obtain ⟨fi, z, y, n, hm1, hfi, hm2, hz, hm3, hm4, hn1, hn2⟩ := args_of A0 A1
  obtain ⟨i1, ki0, kz0, kz1, kz2⟩ := info_parts infoB
  clear hr hx
  go_enter Try.func4, Try.ntmps4
  go_wp2_with fail
  refine (lnew_ok fi n _ (by omega) (by omega)).mono ?_; rintro e w1 ⟨rfl, ⟨B1, h1⟩, hb1⟩
  have H1 := Lib.hid h1
  have HB1 := Lib.hid hb1
  clear h1 hb1 hm1 hm2 hm3 hm4
  go_upto_region 5 with fail
  obtain ⟨w2, hmk, hown, hg⟩ := run_makeSlice_full (P := Try.prog) w1 w.heap.size 48 4 i1 (.bool false) 1 Try.underlying48 ki0 kz0 kz1 .i64 .i64 n (by omega) (by rw [kz2]; omega) (by unfold maxLen; omega) HB1.out.size
  rw [made_one _ rfl, bl_made] at hown
  have hb2 : Below w1.heap.size w1 w2 := (Below.refl _ _).grown hg (Nat.le_refl _) (fun _ e => by cases e)
  have HS2 := Lib.hid (show Ls w w2 w.heap.size fi n (seg fi n) B1 w1.heap.size (fun _ => false) from ⟨H1.out.below hb2, hown, fun h => by have := (H1.out.lt h).2; omega, HB1.out.trans (hb2.mono HB1.out.size)⟩)
  obtain ⟨gw, hgw⟩ : ∃ gw, gw = w1.heap.size := ⟨_, rfl⟩
  rw [← hgw] at hmk HS2
  have HCN := Lib.hid (show cntS (seg fi n) fi n = n from cntS_all fun k k1 k2 => seg_iff.2 ⟨k1, k2⟩)
  clear hgw hown hg hb2 H1 HB1
  go_wp2_with fail
  go_loopw [10, 11] (OnR w w.heap.size fi n gw) (fun _ v _ => 80 - cntI v)
  case atStart => exact ⟨0, _, _, _, rfl, by rw [HCN.out], by omega, HS2.out, fun j hj => by rw [show seg fi n (fi + j) = true from seg_iff.2 ⟨by omega, by omega⟩]; rfl⟩
  case round =>
    clear HS2 hmk HCN
    obtain ⟨i, S, B, F, rfl, rfl, hi, hls, hF⟩ := hrel
    have HS3 := Lib.hid hls
    have HF := Lib.hid hF
    have hcl := cntS_le S fi n
    clear hls hF
    obtain ⟨cn, hcn⟩ : ∃ cn, cntS S fi n = cn := ⟨_, rfl⟩
    rw [hcn] at hcl ⊢
    have HCN := Lib.hid hcn
    clear hcn
    by_cases hlt : i < m ∧ i < 80
    · obtain ⟨l1, l2⟩ := hlt
      obtain ⟨ad, u, rfl, hadb, hxu, hcu⟩ := (HR.out.below HS3.out.be).at_ l1
      obtain ⟨xv, rfl, _⟩ := HX.out u (List.mem_of_getElem? hxu)
      obtain ⟨a1, ha1⟩ : ∃ r, xv.tmod 10 = r := ⟨_, rfl⟩
      have hab := tmod_bdn xv 10 (by decide)
      rw [ha1] at hab
      obtain ⟨ab1, ab2⟩ := hab
      obtain ⟨a2, ha2, ha3⟩ : ∃ r : Nat, a1 + 10 = (r : Int) ∧ r < 20 := ⟨(a1 + 10).toNat, by omega, by omega⟩
      obtain ⟨o, ho, ho10⟩ : ∃ r : Nat, (a2 : Int) % 10 = (r : Int) ∧ r < 10 := ⟨a2 % 10, by omega, by omega⟩
      clear hxu
      go_wp2_with fail
      rw [ho]
      refine (lruns HS3.out.bd).mono ?_; rintro e w4 ⟨v, ts, rfl, hts, hown, hb⟩
      have HT := Lib.hid hts
      have HS4 := Lib.hid (HS3.out.below hb)
      obtain ⟨Av, cv, rfl, hcell⟩ := own_sl hown
      have HC := Lib.hid hcell
      obtain ⟨N, hN⟩ : ∃ N, ts.length = N := ⟨_, rfl⟩
      rw [hN]
      have HN := Lib.hid hN
      have hNb : N ≤ 1200 := by
        have h1 := HT.out.sum (a := fi) (n := n) HS4.out.bd.rng
        have h2 := sumR_len ts
        have h3 := cntS_le S fi n
        omega
      clear hts hown hb hcell hN ha1 ha2 ho hcu HS3
      go_wp2_with fail
      obtain ⟨wo, rfl⟩ : ∃ wo : World, wo = w4 := ⟨_, rfl⟩
      go_loopw [13, 15] (MsR ts wo) (fun _ v _ => N - cntI v)
      case atStart => exact ⟨0, -1, rfl, rfl, Nat.zero_le _, by decide, by decide, ⟨fun x hx => by (cases hx), .inl rfl⟩, 0, rfl⟩
      case round =>
        obtain ⟨j, M, rfl, rfl, hj, hM1, hM9, hms, q, rfl⟩ := hrel
        have HMS := Lib.hid hms
        rw [HN.out] at hj
        clear hms
        by_cases hjN : j < N
        · have g0 : decide ((j : Int) < (N : Int)) = true := by simp; exact hjN
          have g0' : decide (j < N) = true := by simp; exact hjN
          have hjN2 : (j : Int) < (N : Int) := by omega
          obtain ⟨⟨f, p⟩, hx⟩ : ∃ x, ts[j]? = some x := ⟨_, List.getElem?_eq_getElem (by rw [HN.out]; exact hjN)⟩
          have hp9 := ((HT.out.2 f p).1 (List.mem_of_getElem? hx)).le
          obtain ⟨x0, x1⟩ := flat_pv hx
          obtain ⟨ga, rfl, k1⟩ := HC.out _ _ x1
          have htk : ts.take (j + 1) = ts.take j ++ [(f, p)] := by rw [List.take_add_one, hx]; rfl
          have HTK := Lib.hid htk
          obtain ⟨M', hM'⟩ : ∃ M', max M (p : Int) = M' := ⟨_, rfl⟩
          have hMb : -1 ≤ M' ∧ M' ≤ 9 := by omega
          have HM' := Lib.hid hM'
          clear hx x0 x1 htk
          go_wp2
          go_roundw
          case rel => exact ⟨j + 1, M', by go_num, rfl, by rw [HN.out]; omega, hMb.1, hMb.2, by rw [HTK.out, ← HM'.out]; exact HMS.out.snoc, _, rfl⟩
          case measure => simp [cntI]; omega
        · have g0 : decide ((j : Int) < (N : Int)) = false := by simp; omega
          have g0' : decide (j < N) = false := by simp; omega
          have hms := HMS.out
          rw [List.take_of_length_le (by rw [HN.out]; omega)] at hms
          have HS5 := Lib.hid (HS4.out.drewN q)
          generalize wo.drewN q = w5 at *
          clear HMS HC HS4
          rcases least_or S o with hno | ⟨f, kk, hle⟩
          · have hMo : M < (o : Int) := by
              rcases hms.2 with h | ⟨⟨f, p⟩, hx, e⟩
              · omega
              · have hm := (HT.out.2 f p).1 hx
                have e' : (p : Int) = M := e
                have : ¬ o ≤ p := fun h => hno f p h hm
                omega
            have r1 : decide ((o : Int) ≤ M) = false := by simp; omega
            have CT := ltake_none HS5.out.bd ho10 hno
            clear hms hno
            go_wp2_with fail
            refine CT.mono ?_; rintro e w6 ⟨rfl, rfl⟩
            clear CT
            go_wp2
            go_roundw
            case rel => exact ⟨i + 1, S, B, F, by go_num, by rw [HCN.out], by omega, HS5.out, HF.out⟩
            case measure => simp [cntI]; omega
          · have hMo : (o : Int) ≤ M := by
              have := hms.1 _ ((HT.out.2 f kk).2 hle.mx)
              have this' : (kk : Int) ≤ M := this
              have := hle.ok
              omega
            have r1 : decide ((o : Int) ≤ M) = true := by simp; omega
            have CT := ltake_some HS5.out.bd hle
            have HLE := Lib.hid hle
            obtain ⟨m1, m2, m3⟩ := HS5.out.bd.mx hle.mx
            have hkk := Bud.pow_le hle.ok
            obtain ⟨t, ht, ht2, ht3, ht4⟩ : ∃ t : Nat, (2 : Int) ^ o = (t : Int) ∧ t ≤ 512 ∧ t = 2 ^ o ∧ 0 < t := ⟨2 ^ o, by simp, by have := Bud.pow_le (show o ≤ 9 by omega); omega, rfl, Nat.two_pow_pos o⟩
            have hal : (f : Int) % (t : Int) = 0 := by
              have := Bud.mod_le hle.mx.al hle.ok
              rw [← ht3] at this
              omega
            have m2' : f + t ≤ fi + n := by omega
            have hall := Lib.hid (show ∀ k, f ≤ k → k < f + t → S k = true from fun k k1 k2 => hle.mx.all k k1 (by omega))
            have HTP := Lib.hid ht3
            obtain ⟨d, hd, hd2⟩ : ∃ d : Nat, (f : Int) - (fi : Int) = (d : Int) ∧ d = f - fi := ⟨f - fi, by omega, rfl⟩
            have hdn : d + t ≤ n := by omega
            have r2 : decide ((f : Int) < (fi : Int)) = false := by simp; omega
            have r2' : decide (f < fi) = false := by simp; omega
            have r3 : decide ((n : Int) - (t : Int) < (d : Int)) = false := by simp; omega
            have HD := Lib.hid hd2
            have ht6 : ¬ t = 0 := by omega
            have hcs := cntS_less (S := S) (a := fi) (n := n) (f := f) (o := o) m1 (by omega) (fun k k1 k2 => hle.mx.all k k1 (by omega))
            rw [HCN.out, ← ht3] at hcs
            have HCS := Lib.hid hcs
            have hct : t ≤ cn := by omega
            clear hms hle ht3 m2 hkk hd2 hcs
            go_wp2_with fail
            refine CT.mono ?_; rintro e w6 ⟨rfl, ht9⟩
            obtain ⟨B6, hls6⟩ := HS5.out.to ht9
            have HS6 := Lib.hid hls6
            clear hls6 ht9 CT HS5
            go_wp2_with fail
            rw [hal]
            go_loopw [18] (MkR w w.heap.size fi n (Bud.less S f o) B6 gw d t F) (fun v _ => t - cntI v)
            case atStart => exact ⟨0, F, rfl, Nat.zero_le _, HS6.out, fun j => by
              rw [show (decide (d ≤ j) && decide (j < d + 0)) = false by
                rw [Bool.and_eq_false_iff]
                by_cases h : d ≤ j
                · right; simp; omega
                · left; simp; omega]
              simp⟩
            case round =>
              clear HS6
              obtain ⟨k, G, rfl, hk, hls, hG⟩ := hrel
              have HS6 := Lib.hid hls
              have HG := Lib.hid hG
              clear hls hG
              by_cases hkt : k < t
              · have g1 : decide ((k : Int) < (t : Int)) = true := by simp; exact hkt
                have g1' : decide (k < t) = true := by simp; exact hkt
                obtain ⟨e, he, he2⟩ : ∃ e : Nat, (d : Int) + (k : Int) = (e : Int) ∧ e = d + k := ⟨d + k, by simp, rfl⟩
                obtain ⟨h, hh, hh2⟩ : ∃ h : Nat, (f : Int) + (k : Int) = (h : Int) ∧ h = f + k := ⟨f + k, by simp, rfl⟩
                have hen : e < n := by omega
                have hen2 : (e : Int) < (n : Int) := by omega
                have cw := HS6.out.cell hen
                have hGe : G e = false := by
                  rw [HG.out, HF.out e hen, show fi + e = f + k by have := HD.out; omega, hall.out (f + k) (by omega) (by omega), show decide (e < d + k) = false by simp; omega]
                  simp
                rw [hGe] at cw
                have HEE := Lib.hid he2
                have CH := lhas HS6.out.bd (h : Int)
                rw [hasF_nat, show Bud.less S f o h = false from by
                  cases hl : Bud.less S f o h
                  · rfl
                  · exact absurd ⟨by omega, by have := HTP.out; omega⟩ (Bud.less_iff.1 hl).2] at CH
                clear he2 hh2 hGe
                go_wp2_with fail
                refine CH.mono ?_; rintro e9 w7 ⟨rfl, q7, rfl⟩
                have HS7 := Lib.hid (HS6.out.drewN q7)
                clear CH cw HS6
                generalize wr.drewN q7 = w7 at *
                have cw := HS7.out.cell hen
                have cz := HS7.out.frozen e
                go_wp2
                go_roundw
                case rel => exact ⟨k + 1, upd G e true, by go_num, by omega, HS7.out.set e true, fun j => by
                  unfold upd
                  by_cases hje : j = e
                  · rw [if_pos hje, show decide (d ≤ j) = true by have := HEE.out; simp; omega, show decide (j < d + (k + 1)) = true by have := HEE.out; simp; omega]
                    simp
                  · rw [if_neg hje, HG.out]
                    congr 2
                    rw [Bool.eq_iff_iff, decide_eq_true_eq, decide_eq_true_eq]
                    have := HEE.out
                    omega⟩
                case measure => simp [cntI]; omega
              · obtain rfl : k = t := by omega
                have g1 : decide ((k : Int) < (k : Int)) = false := by simp
                have CF := lfree HS6.out.bd
                obtain ⟨cn', hc1, hc2⟩ : ∃ cn' : Nat, (cn : Int) - (k : Int) = (cn' : Int) ∧ cn' = cntS (Bud.less S f o) fi n := ⟨cn - k, by omega, by have := HCS.out; omega⟩
                rw [← hc2] at CF
                have HC2 := Lib.hid hc2
                clear hc2
                go_wp2_with fail
                refine CF.mono ?_; rintro e9 w7 ⟨rfl, rfl⟩
                clear CF
                go_wp2
                go_roundw
                case rel => exact ⟨i + 1, Bud.less S f o, B6, G, by go_num, by rw [HC2.out], by omega, HS6.out, fun j hj => by
                  rw [HG.out, HF.out j hj]
                  unfold Bud.less
                  have h1 := HD.out
                  have h2 := HTP.out
                  rw [show decide (d ≤ j) = decide (f ≤ fi + j) by rw [Bool.eq_iff_iff, decide_eq_true_eq, decide_eq_true_eq]; omega, show decide (j < d + k) = decide (fi + j < f + 2 ^ o) by rw [Bool.eq_iff_iff, decide_eq_true_eq, decide_eq_true_eq]; omega]
                  cases S (fi + j) <;> simp⟩
                case measure => simp [cntI]; omega
    · have hlt' : m ≤ i ∨ (i < m ∧ 80 ≤ i) := by omega
      clear hlt
      rcases hlt' with h | ⟨h1, h2⟩
      · go_wp2_with fail
        refine (told_any _).mono ?_; rintro e w7 ⟨rfl, hb7⟩
        have HB7 := Lib.hid (HS3.out.be.trans (hb7.mono HS3.out.be.size))
        clear hb7
        go_wp2
        go_ret
        exact ⟨rfl, HB7.out⟩
      · go_wp2_with fail
        refine (told_any _).mono ?_; rintro e w7 ⟨rfl, hb7⟩
        have HB7 := Lib.hid (HS3.out.be.trans (hb7.mono HS3.out.be.size))
        clear hb7
        go_wp2
        go_ret
        exact ⟨rfl, HB7.out⟩
end Go.Proofs.Ytmmjkebhcihjlaa
