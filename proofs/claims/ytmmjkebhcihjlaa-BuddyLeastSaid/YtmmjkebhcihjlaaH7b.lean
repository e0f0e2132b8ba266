/- The walk of the statement BuddyLeast: it returns true. -/
import Derived.Test.YtmmjkebhcihjlaaBuz
namespace Go.Proofs.Ytmmjkebhcihjlaa
open Go.RowKit

/-- The steps ahead. -/
def StR (w : World) (c fi n : Nat) (v : Value) (wr : World) : Prop := ∃ (i : Nat) (S : Nat → Bool) (B : Nat → Prop), v = .int .i64 i ∧ i ≤ 40 ∧ BdAt wr w.heap.size c fi n S B ∧ Below w.heap.size w wr
/-- 'was' is filled. -/
def WsR (w : World) (c fi n : Nat) (S : Nat → Bool) (B : Nat → Prop) (gw : Nat) (vr : Value) (ts : List (Nat × Nat)) (v : Value) (wr : World) : Prop := ∃ (i : Nat) (F : Nat → Bool), v = .int .i64 i ∧ i ≤ n ∧ Ls w wr c fi n S B gw F ∧ (∀ j, j < i → F j = S (fi + j)) ∧ wr.ownsRow w.heap.size 34 2 vr ts.length (ts.flatMap pv)

/-- What the look has found. -/
def Fnd (l : List (Nat × Nat)) (o : Nat) (want best : Int) : Prop := (want = -1 ∧ best = 10 ∧ ∀ x ∈ l, x.2 < o) ∨ ∃ f k : Nat, want = f ∧ best = k ∧ (f, k) ∈ l ∧ o ≤ k ∧ ∀ x ∈ l, o ≤ x.2 → k ≤ x.2 ∧ (x.2 = k → f ≤ x.1)
theorem Fnd.same {l : List (Nat × Nat)} {o f p : Nat} {want best : Int} (h : Fnd l o want best) (hp : p ≤ 9) (hn : ¬ (o ≤ p ∧ (p : Int) < best)) (hf : ∀ x ∈ l, x.1 ≤ f) : Fnd (l ++ [(f, p)]) o want best := by
  rcases h with ⟨h1, h2, h3⟩ | ⟨g, k, h1, h2, h3, h4, h5⟩
  · refine .inl ⟨h1, h2, fun x hx => ?_⟩
    rcases List.mem_append.1 hx with hx | hx
    · exact h3 x hx
    · rw [List.mem_singleton.1 hx]
      show p < o
      omega
  · refine .inr ⟨g, k, h1, h2, List.mem_append_left _ h3, h4, fun x hx hox => ?_⟩
    rcases List.mem_append.1 hx with hx | hx
    · exact h5 x hx hox
    · have e := List.mem_singleton.1 hx
      subst e
      have hox' : o ≤ p := hox
      refine ⟨by show k ≤ p; omega, fun _ => hf _ h3⟩
theorem Fnd.new {l : List (Nat × Nat)} {o f p : Nat} {want best : Int} (h : Fnd l o want best) (h1 : o ≤ p) (h2 : (p : Int) < best) : Fnd (l ++ [(f, p)]) o f p := by
  refine .inr ⟨f, p, rfl, rfl, List.mem_append_right _ (List.mem_singleton.2 rfl), h1, fun x hx hox => ?_⟩
  rcases List.mem_append.1 hx with hx | hx
  · rcases h with ⟨_, _, h5⟩ | ⟨g, k, _, h4, h5, h6, h7⟩
    · have := h5 x hx; omega
    · have := (h7 x hx hox).1
      exact ⟨by omega, fun e => by omega⟩
  · have e := List.mem_singleton.1 hx
    subst e
    exact ⟨Nat.le_refl _, fun _ => Nat.le_refl _⟩
theorem Fnd.least {S : Nat → Bool} {l : List (Nat × Nat)} {o : Nat} {want best : Int} (h : Fnd l o want best) (hr : RunsOf S l) : (want = -1 ∧ ∀ f p, o ≤ p → ¬ Bud.Mx S f p) ∨ ∃ f k : Nat, want = f ∧ Least S o f k := by
  rcases h with ⟨h1, h2, h3⟩ | ⟨g, k, h1, h2, h3, h4, h5⟩
  · refine .inl ⟨h1, fun f p hp hm => ?_⟩
    have := h3 _ ((hr.2 f p).2 hm)
    have this' : p < o := this
    omega
  · refine .inr ⟨g, k, h1, h4, fun g' p hp hpk hm => ?_, (hr.2 g k).1 h3, fun g' hm => ?_⟩
    · have := (h5 _ ((hr.2 g' p).2 hm) hp).1
      have this' : k ≤ p := this
      omega
    · exact (h5 _ ((hr.2 g' k).2 hm) h4).2 rfl

def FnR (ts : List (Nat × Nat)) (o : Nat) (wo : World) (vw vb vi : Value) (wr : World) : Prop := ∃ (i : Nat) (want best : Int), vi = .int .i64 i ∧ vw = .int .i64 want ∧ vb = .int .i64 best ∧ i ≤ ts.length ∧ 0 ≤ best ∧ best ≤ 10 ∧ Fnd (ts.take i) o want best ∧ ∃ q, wr = wo.drewN q
def LsR (w : World) (c fi n : Nat) (S : Nat → Bool) (B : Nat → Prop) (gw : Nat) (F : Nat → Bool) (v : Value) (wr : World) : Prop := ∃ i : Nat, v = .int .i64 i ∧ i ≤ n ∧ Ls w wr c fi n S B gw F

set_option maxRecDepth 100000 in
set_option maxHeartbeats 8000000 in
theorem buddyLeast_walk (A0 A1 A3 : Int) (A : Option Addr) (m c : Nat) (xs : List Value) (w : World) (hr : Reads w w.heap.size 3 A m xs) (hx : CellsR [.i .i64, .i .i64, .i .i64] xs) :
    Calls Try.prog 7 #[.int .i64 A0, .int .i64 A1, .slice A m c, .int .i64 A3] w fun e w' => e = .returned (.bool true) ∧ Below w.heap.size w w' := by
  have HR := Lib.hid hr
  have HX := Lib.hid hx
  obtain ⟨fi, z, y, n, hm1, hfi, hm2, hz, hm3, hm4, hn1, hn2⟩ := args_of A0 A1
  clear hr hx
  go_enter Try.func7, Try.ntmps7
  go_wp2_with fail
  refine (lnew_ok fi n _ (by omega) (by omega)).mono ?_; rintro e w1 ⟨rfl, ⟨B1, h1⟩, hb1⟩
  have H1 := Lib.hid h1
  have HB1 := Lib.hid hb1
  clear h1 hb1 hm1 hm2 hm3 hm4
  go_wp2_with fail
  go_loopw [11] (StR w w.heap.size fi n) (fun v _ => 40 - cntI v)
  case atStart => exact ⟨0, _, _, rfl, by omega, H1.out, HB1.out⟩
  case round =>
    obtain ⟨i, S, B, rfl, hi, hbd, hbe⟩ := hrel
    have HBD := Lib.hid hbd
    have HBE := Lib.hid hbe
    clear hbd hbe
    by_cases hlt : i < m ∧ i < 40
    · obtain ⟨l1, l2⟩ := hlt
      obtain ⟨ad, rfl, hadb, hcell⟩ := (HR.out.below HBE.out).2 (by omega)
      have hlen := HR.out.1
      have hint : ∀ q k, q < 3 → ([.i .i64, .i .i64, .i .i64] : List CK)[q]? = some (.i k) → ∃ z, wr.cell? (ad.add (i * 3 + q)) = some (.int k z) ∧ (Lit.int k z).wf = true := fun q k hq hk => by
        have hq' : i * 3 + q < xs.length := by omega
        obtain ⟨z, hz, hwz⟩ := HX.out.int hq' (kind_at (ks := [.i .i64, .i .i64, .i .i64]) hq hk)
        exact ⟨z, hcell _ _ hz, hwz⟩
      obtain ⟨kd, hc0, _⟩ := hint 0 .i64 (by decide) rfl
      rw [Nat.add_zero] at hc0
      obtain ⟨fr, hc1, _⟩ := hint 1 .i64 (by decide) rfl
      obtain ⟨od, hc2, _⟩ := hint 2 .i64 (by decide) rfl
      rw [add_field' _ _ _ (by decide)] at hc1 hc2
      clear hcell hint hlen
      have hm1 : bits .and .i64 kd 1 = kd % 2 := mask64 kd 1 (by omega)
      rcases (show kd % 2 = 0 ∨ kd % 2 = 1 by omega) with hk | hk
      · rw [hk] at hm1
        clear hk
        obtain ⟨o, ho⟩ : ∃ o, bits .and .i64 od 7 = o := ⟨_, rfl⟩
        go_wp2_with fail
        refine (ltake_any HBD.out o).mono ?_
        rintro e w2 ⟨f, r, S2, rfl, ht⟩
        have HBE2 := Lib.hid (ht.bel HBE.out HBD.out (Nat.le_refl _))
        obtain ⟨B2, h2, _, _⟩ := ht
        have H2 := Lib.hid h2
        clear h2
        go_wp2
        go_roundw
        case rel => exact ⟨i + 1, S2, B2, by go_num, by omega, H2.out, HBE2.out⟩
        case measure => simp [cntI]; omega
      · rw [hk] at hm1
        clear hk
        obtain ⟨r1, hr1⟩ : ∃ r, fr.tmod (n : Int) = r := ⟨_, rfl⟩
        have hb1 := tmod_bdn fr n (by omega)
        rw [hr1] at hb1
        obtain ⟨b1, b2⟩ := hb1
        obtain ⟨r2, hr2⟩ : ∃ r : Nat, r1 + (n : Int) = (r : Int) := ⟨(r1 + (n : Int)).toNat, by omega⟩
        obtain ⟨r3, hr3, hr4⟩ : ∃ r : Nat, (r2 : Int) % (n : Int) = (r : Int) ∧ r < n := ⟨r2 % n, by simp, Nat.mod_lt _ (by omega)⟩
        have hn0 : ¬ n = 0 := by omega
        go_wp2_with fail
        refine (lgive_any HBD.out _ 0).mono ?_
        rintro e w2 ⟨r, S2, rfl, ht⟩
        have HBE2 := Lib.hid (ht.bel HBE.out HBD.out (Nat.le_refl _))
        obtain ⟨B2, h2, _, _⟩ := ht
        have H2 := Lib.hid h2
        clear h2
        go_wp2
        go_roundw
        case rel => exact ⟨i + 1, S2, B2, by go_num, by omega, H2.out, HBE2.out⟩
        case measure => simp [cntI]; omega
    · have hlt' : m ≤ i ∨ (i < m ∧ 40 ≤ i) := by omega
      clear hlt
      obtain ⟨a1, ha1⟩ : ∃ r, A3.tmod 10 = r := ⟨_, rfl⟩
      have hab := tmod_bdn A3 10 (by decide)
      rw [ha1] at hab
      obtain ⟨ab1, ab2⟩ := hab
      obtain ⟨a2, ha2, ha3⟩ : ∃ r : Nat, a1 + 10 = (r : Int) ∧ r < 20 := ⟨(a1 + 10).toNat, by omega, by omega⟩
      obtain ⟨o, ho, ho10⟩ : ∃ r : Nat, (a2 : Int) % 10 = (r : Int) ∧ r < 10 := ⟨a2 % 10, by omega, by omega⟩
      obtain ⟨i1, ki0, kz0, kz1, kz2⟩ := info_parts infoB
      rcases hlt' with h | ⟨h1, h2⟩
      · go_wp2_with fail
        rw [ho]
        refine (lruns HBD.out).mono ?_; rintro e w2 ⟨v, ts, rfl, hts, hown, hb⟩
        have HT := Lib.hid hts
        have H2 := Lib.hid (HBD.out.below hb)
        have HB2 := Lib.hid (HBE.out.trans (hb.mono HBE.out.size))
        have HO2 := Lib.hid (ownsRow_mono hown HBE.out.size)
        clear hts hown hb HBD HBE ha1 ha2 ho
        go_upto_region 13 with fail
        obtain ⟨w3, hmk, hown, hg⟩ := run_makeSlice_full (P := Try.prog) w2 w.heap.size 48 4 i1 (.bool false) 1 Try.underlying48 ki0 kz0 kz1 .i64 .i64 n (by omega) (by rw [kz2]; omega) (by unfold maxLen; omega) HB2.out.size
        rw [made_one _ rfl, bl_made] at hown
        have hb3 : Below w2.heap.size w2 w3 := (Below.refl _ _).grown hg (Nat.le_refl _) (fun _ e => by cases e)
        have HS3 := Lib.hid (show Ls w w3 w.heap.size fi n S B w2.heap.size (fun _ => false) from ⟨H2.out.below hb3, hown, fun h => by have := (H2.out.lt h).2; omega, HB2.out.trans (hb3.mono HB2.out.size)⟩)
        have HO3 := Lib.hid (own_below HO2.out hb3)
        have HNV := Lib.hid (show v.ownBlock ≠ some w2.heap.size from fun e => by have := (HO2.out.lt _ e).2; omega)
        obtain ⟨gw, hgw⟩ : ∃ gw, gw = w2.heap.size := ⟨_, rfl⟩
        rw [← hgw] at hmk HS3 HNV
        clear hgw hown hg hb3 HO2 H2 HB2
        go_wp2_with fail
        go_loopw [15] (WsR w w.heap.size fi n S B gw v ts) (fun v _ => n - cntI v)
        case atStart => exact ⟨0, _, rfl, Nat.zero_le _, HS3.out, fun j hj => absurd hj (Nat.not_lt_zero _), HO3.out⟩
        case round =>
          clear HS3 HO3 hmk
          obtain ⟨i, F, rfl, hi, hls, hF, hro⟩ := hrel
          have HS3 := Lib.hid hls
          have HF := Lib.hid hF
          have HO3 := Lib.hid hro
          clear hls hF hro
          by_cases hin : i < n
          · have g0 : decide ((i : Int) < (n : Int)) = true := by simp; exact hin
            have g0' : decide (i < n) = true := by simp; exact hin
            obtain ⟨k, hk, hk2⟩ : ∃ k : Nat, (fi : Int) + (i : Int) = (k : Int) ∧ k = fi + i := ⟨fi + i, by simp, rfl⟩
            have HK := Lib.hid hk2
            clear hk2
            have CH := lhas HS3.out.bd (k : Int)
            rw [hasF_nat] at CH
            go_wp2_with fail
            refine CH.mono ?_; rintro e w4 ⟨rfl, q, rfl⟩
            have HS4 := Lib.hid (HS3.out.drewN q)
            have HO4 := Lib.hid (own_below HO3.out (below_drewN (Below.refl _ _) q))
            have cw := HS4.out.cell hin
            have cz := HS4.out.frozen i
            have hin2 : (i : Int) < (n : Int) := by omega
            clear CH
            generalize wr.drewN q = w4 at *
            go_wp2
            go_roundw
            case rel => exact ⟨i + 1, upd F i (S k), by go_num, by omega, HS4.out.set i _, fun j hj => by
              unfold upd
              by_cases e : j = i
              · rw [if_pos e, HK.out, e]
              · rw [if_neg e]; exact HF.out j (by omega), own_apart (S := fun k => k = gw) HO4.out ((Only.refl (fun k => k = gw) w4).setCell (p := ⟨gw, i, none⟩) (.inl rfl) _) (fun g hg e => HNV.out (by rw [hg, e]))⟩
            case measure => simp [cntI]; omega
          · have g0 : decide ((i : Int) < (n : Int)) = false := by simp; omega
            have g0' : decide (i < n) = false := by simp; omega
            have HF2 := Lib.hid (show ∀ j, j < n → F j = S (fi + j) from fun j hj => HF.out j (by omega))
            clear HF
            have HF := HF2
            obtain ⟨Av, cv, rfl, hcell⟩ := own_sl HO3.out
            have HC := Lib.hid hcell
            obtain ⟨N, hN⟩ : ∃ N, ts.length = N := ⟨_, rfl⟩
            rw [hN]
            have HN := Lib.hid hN
            have hNb : N ≤ 1200 := by
              have h1 := HT.out.sum (a := fi) (n := n) HS3.out.bd.rng
              have h2 := sumR_len ts
              have h3 := cntS_le S fi n
              omega
            clear hcell hN HO3 HNV HF2
            go_wp2_with fail
            obtain ⟨wo, rfl⟩ : ∃ wo : World, wo = wr := ⟨_, rfl⟩
            go_loopw [16, 17, 18] (FnR ts o wo) (fun _ _ v _ => N - cntI v)
            case atStart => exact ⟨0, -1, 10, rfl, rfl, rfl, Nat.zero_le _, by decide, by decide, .inl ⟨rfl, rfl, fun x hx => by cases hx⟩, 0, rfl⟩
            case round =>
              obtain ⟨i, want, best, rfl, rfl, rfl, hi, hb0, hb10, hfn, q, rfl⟩ := hrel
              have HFN := Lib.hid hfn
              rw [HN.out] at hi
              clear hfn
              by_cases hiN : i < N
              · have g0 : decide ((i : Int) < (N : Int)) = true := by simp; exact hiN
                have g0' : decide (i < N) = true := by simp; exact hiN
                have hiN2 : (i : Int) < (N : Int) := by omega
                obtain ⟨⟨f, p⟩, hx⟩ : ∃ x, ts[i]? = some x := ⟨_, List.getElem?_eq_getElem (by rw [HN.out]; exact hiN)⟩
                have hp9 := ((HT.out.2 f p).1 (List.mem_of_getElem? hx)).le
                obtain ⟨x0, x1⟩ := flat_pv hx
                obtain ⟨ga, rfl, k0⟩ := HC.out _ _ x0
                obtain ⟨_, e9, k1⟩ := HC.out _ _ x1
                cases e9
                have htk : ts.take (i + 1) = ts.take i ++ [(f, p)] := by rw [List.take_add_one, hx]; rfl
                have HLT := Lib.hid (show ∀ x ∈ ts.take i, x.1 ≤ f from fun x hxm => by
                  obtain ⟨j, hj, e⟩ := List.mem_iff_getElem.1 hxm
                  rw [List.length_take] at hj
                  rw [List.getElem_take] at e
                  obtain ⟨q2, e2⟩ := List.getElem?_eq_some_iff.1 hx
                  have := (List.pairwise_iff_getElem.1 HT.out.1) j i (by omega) q2 (by omega)
                  rw [e2, e] at this
                  exact Nat.le_of_lt this)
                have HTK := Lib.hid htk
                clear hx x0 x1 htk
                by_cases k1' : o ≤ p
                · have r1 : decide ((o : Int) ≤ (p : Int)) = true := by simp; exact k1'
                  have r1' : decide (o ≤ p) = true := by simp; exact k1'
                  by_cases k2' : (p : Int) < best
                  · have r2 : decide ((p : Int) < best) = true := by simp; exact k2'
                    go_wp2_with fail
                    go_quiet (fail)
                    go_wp2
                    go_roundw
                    case rel => exact ⟨i + 1, f, p, by go_num, rfl, rfl, by rw [HN.out]; omega, by omega, by omega, by rw [HTK.out]; exact HFN.out.new k1' k2', _, rfl⟩
                    case measure => simp [cntI]; omega
                  · have r2 : decide ((p : Int) < best) = false := by simp; omega
                    go_wp2
                    go_roundw
                    case rel => exact ⟨i + 1, want, best, by go_num, rfl, rfl, by rw [HN.out]; omega, hb0, hb10, by rw [HTK.out]; exact HFN.out.same hp9 (fun h => k2' h.2) HLT.out, _, rfl⟩
                    case measure => simp [cntI]; omega
                · have r1 : decide ((o : Int) ≤ (p : Int)) = false := by simp; omega
                  have r1' : decide (o ≤ p) = false := by simp; omega
                  go_wp2
                  go_roundw
                  case rel => exact ⟨i + 1, want, best, by go_num, rfl, rfl, by rw [HN.out]; omega, hb0, hb10, by rw [HTK.out]; exact HFN.out.same hp9 (fun h => k1' h.1) HLT.out, _, rfl⟩
                  case measure => simp [cntI]; omega
              · have g0 : decide ((i : Int) < (N : Int)) = false := by simp; omega
                have g0' : decide (i < N) = false := by simp; omega
                have HS4 := Lib.hid (HS3.out.drewN q)
                have hfn := HFN.out
                rw [List.take_of_length_le (by rw [HN.out]; omega)] at hfn
                have hle := hfn.least HT.out
                generalize wo.drewN q = w4 at *
                clear hfn HFN HC
                rcases hle with ⟨rfl, hno⟩ | ⟨f, kk, rfl, hle⟩
                · have CT := ltake_none HS4.out.bd ho10 hno
                  have HNO := Lib.hid hno
                  clear hno
                  go_wp2_with fail
                  refine CT.mono ?_; rintro e w5 ⟨rfl, rfl⟩
                  have HS5 := HS4
                  obtain ⟨w5, rfl⟩ : ∃ w5 : World, w5 = w4 := ⟨_, rfl⟩
                  clear CT
                  go_wp2_with fail
                  go_loopw [21] (LsR w w.heap.size fi n S B gw F) (fun v _ => n - cntI v)
                  case atStart => exact ⟨0, rfl, Nat.zero_le _, HS5.out⟩
                  case round =>
                    clear HS5
                    obtain ⟨i, rfl, hi, hls⟩ := hrel
                    have HS6 := Lib.hid hls
                    clear hls
                    by_cases hin : i < n
                    · have g0 : decide ((i : Int) < (n : Int)) = true := by simp; exact hin
                      have g0' : decide (i < n) = true := by simp; exact hin
                      have hin2 : (i : Int) < (n : Int) := by omega
                      obtain ⟨k, hk, hk2⟩ : ∃ k : Nat, (fi : Int) + (i : Int) = (k : Int) ∧ k = fi + i := ⟨fi + i, by simp, rfl⟩
                      have cw := HS6.out.cell hin
                      rw [HF.out i hin, ← hk2] at cw
                      have HK := Lib.hid hk2
                      clear hk2
                      cases hb : S k
                      · rw [hb] at cw
                        have HV := Lib.hid hb
                        clear hb
                        have HBI := Lib.hid (hasF_nat S k)
                        have CH := fun q => lhas (HS6.out.bd.drewN q) (k : Int)
                        rw [HBI.out, HV.out] at CH
                        have CHH := Lib.hid CH
                        clear CH
                        go_wp2_with fail
                        go_quiet ((go_at_call 17; refine quiet_drew (CHH.out _)))
                        go_wp2
                        go_roundw
                        case rel => exact ⟨i + 1, by go_num, by omega, HS6.out.drewN _⟩
                        case measure => simp [cntI]; omega
                      · rw [hb] at cw
                        have HV := Lib.hid hb
                        clear hb
                        have HBI := Lib.hid (hasF_nat S k)
                        have CH := fun q => lhas (HS6.out.bd.drewN q) (k : Int)
                        rw [HBI.out, HV.out] at CH
                        have CHH := Lib.hid CH
                        clear CH
                        go_wp2_with fail
                        go_quiet ((go_at_call 17; refine quiet_drew (CHH.out _)))
                        go_wp2
                        go_roundw
                        case rel => exact ⟨i + 1, by go_num, by omega, HS6.out.drewN _⟩
                        case measure => simp [cntI]; omega
                    · have g0 : decide ((i : Int) < (n : Int)) = false := by simp; omega
                      have g0' : decide (i < n) = false := by simp; omega
                      go_wp2_with fail
                      refine (told_any _).mono ?_; rintro e w7 ⟨rfl, hb7⟩
                      have HB7 := Lib.hid (HS6.out.be.trans (hb7.mono HS6.out.be.size))
                      clear hb7
                      go_wp2
                      go_ret
                      exact ⟨rfl, HB7.out⟩
                · have CT := ltake_some HS4.out.bd hle
                  have HLE := Lib.hid hle
                  obtain ⟨m1, m2, m3⟩ := HS4.out.bd.mx hle.mx
                  have hf6 : f ≤ 6000 := by have := Bud.pow_pos kk; omega
                  obtain ⟨t, ht, ht2, ht3, ht4⟩ : ∃ t : Nat, (2 : Int) ^ o = (t : Int) ∧ t ≤ 512 ∧ t = 2 ^ o ∧ 0 < t := ⟨2 ^ o, by simp, by have := Bud.pow_le (show o ≤ 9 by omega); omega, rfl, Nat.two_pow_pos o⟩
                  obtain ⟨s', hs1, hs2⟩ : ∃ s : Nat, (f : Int) + (t : Int) = (s : Int) ∧ s = f + 2 ^ o := ⟨f + t, by simp, by rw [ht3]⟩
                  have HT2 := Lib.hid ht3
                  have HS' := Lib.hid hs2
                  clear hle ht3 hs2 m2
                  go_wp2_with fail
                  refine CT.mono ?_; rintro e w5 ⟨rfl, ht9⟩
                  obtain ⟨B5, hls5⟩ := HS4.out.to ht9
                  have HS5 := Lib.hid hls5
                  clear hls5 ht9 CT
                  go_wp2_with fail
                  go_loopw [21] (LsR w w.heap.size fi n (Bud.less S f o) B5 gw F) (fun v _ => n - cntI v)
                  case atStart => exact ⟨0, rfl, Nat.zero_le _, HS5.out⟩
                  case round =>
                    clear HS5
                    obtain ⟨i, rfl, hi, hls⟩ := hrel
                    have HS6 := Lib.hid hls
                    clear hls
                    by_cases hin : i < n
                    · have g0 : decide ((i : Int) < (n : Int)) = true := by simp; exact hin
                      have g0' : decide (i < n) = true := by simp; exact hin
                      have hin2 : (i : Int) < (n : Int) := by omega
                      obtain ⟨k, hk, hk2⟩ : ∃ k : Nat, (fi : Int) + (i : Int) = (k : Int) ∧ k = fi + i := ⟨fi + i, by simp, rfl⟩
                      have cw := HS6.out.cell hin
                      rw [HF.out i hin, ← hk2] at cw
                      have HK := Lib.hid hk2
                      clear hk2
                      by_cases k1 : f ≤ k
                      · have r1 : decide ((f : Int) ≤ (k : Int)) = true := by simp; exact k1
                        have r1' : decide (f ≤ k) = true := by simp; exact k1
                        by_cases k2 : k < s'
                        · have r2 : decide ((k : Int) < (s' : Int)) = true := by simp; exact k2
                          have r2' : decide (k < s') = true := by simp; exact k2
                          have hb : S k = true := HLE.out.mx.all k k1 (by have := HS'.out; have := Bud.pow_le HLE.out.ok; omega)
                          rw [hb] at cw
                          have HV := Lib.hid (show Bud.less S f o k = false from by
                            cases hl : Bud.less S f o k
                            · rfl
                            · exact absurd ⟨k1, by have := HS'.out; omega⟩ (Bud.less_iff.1 hl).2)
                          clear hb
                          have HBI := Lib.hid (hasF_nat (Bud.less S f o) k)
                          have CH := fun q => lhas (HS6.out.bd.drewN q) (k : Int)
                          rw [HBI.out, HV.out] at CH
                          have CHH := Lib.hid CH
                          clear CH
                          go_wp2_with fail
                          go_quiet ((go_at_call 17; refine quiet_drew (CHH.out _)))
                          go_wp2
                          go_roundw
                          case rel => exact ⟨i + 1, by go_num, by omega, HS6.out.drewN _⟩
                          case measure => simp [cntI]; omega
                        · have r2 : decide ((k : Int) < (s' : Int)) = false := by simp; omega
                          have r2' : decide (k < s') = false := by simp; omega
                          have hl : Bud.less S f o k = S k := by
                            unfold Bud.less
                            rw [show decide (k < f + 2 ^ o) = false by have := HS'.out; simp; omega]; simp
                          cases hb : S k
                          · rw [hb] at cw hl
                            have HV := Lib.hid hl
                            clear hb hl
                            have HBI := Lib.hid (hasF_nat (Bud.less S f o) k)
                            have CH := fun q => lhas (HS6.out.bd.drewN q) (k : Int)
                            rw [HBI.out, HV.out] at CH
                            have CHH := Lib.hid CH
                            clear CH
                            go_wp2_with fail
                            go_quiet ((go_at_call 17; refine quiet_drew (CHH.out _)))
                            go_wp2
                            go_roundw
                            case rel => exact ⟨i + 1, by go_num, by omega, HS6.out.drewN _⟩
                            case measure => simp [cntI]; omega
                          · rw [hb] at cw hl
                            have HV := Lib.hid hl
                            clear hb hl
                            have HBI := Lib.hid (hasF_nat (Bud.less S f o) k)
                            have CH := fun q => lhas (HS6.out.bd.drewN q) (k : Int)
                            rw [HBI.out, HV.out] at CH
                            have CHH := Lib.hid CH
                            clear CH
                            go_wp2_with fail
                            go_quiet ((go_at_call 17; refine quiet_drew (CHH.out _)))
                            go_wp2
                            go_roundw
                            case rel => exact ⟨i + 1, by go_num, by omega, HS6.out.drewN _⟩
                            case measure => simp [cntI]; omega
                      · have r1 : decide ((f : Int) ≤ (k : Int)) = false := by simp; omega
                        have r1' : decide (f ≤ k) = false := by simp; omega
                        have hl : Bud.less S f o k = S k := by
                          unfold Bud.less
                          rw [show decide (f ≤ k) = false by simp; omega]; simp
                        cases hb : S k
                        · rw [hb] at cw hl
                          have HV := Lib.hid hl
                          clear hb hl
                          have HBI := Lib.hid (hasF_nat (Bud.less S f o) k)
                          have CH := fun q => lhas (HS6.out.bd.drewN q) (k : Int)
                          rw [HBI.out, HV.out] at CH
                          have CHH := Lib.hid CH
                          clear CH
                          go_wp2_with fail
                          go_quiet ((go_at_call 17; refine quiet_drew (CHH.out _)))
                          go_wp2
                          go_roundw
                          case rel => exact ⟨i + 1, by go_num, by omega, HS6.out.drewN _⟩
                          case measure => simp [cntI]; omega
                        · rw [hb] at cw hl
                          have HV := Lib.hid hl
                          clear hb hl
                          have HBI := Lib.hid (hasF_nat (Bud.less S f o) k)
                          have CH := fun q => lhas (HS6.out.bd.drewN q) (k : Int)
                          rw [HBI.out, HV.out] at CH
                          have CHH := Lib.hid CH
                          clear CH
                          go_wp2_with fail
                          go_quiet ((go_at_call 17; refine quiet_drew (CHH.out _)))
                          go_wp2
                          go_roundw
                          case rel => exact ⟨i + 1, by go_num, by omega, HS6.out.drewN _⟩
                          case measure => simp [cntI]; omega
                    · have g0 : decide ((i : Int) < (n : Int)) = false := by simp; omega
                      have g0' : decide (i < n) = false := by simp; omega
                      go_wp2_with fail
                      refine (told_any _).mono ?_; rintro e w7 ⟨rfl, hb7⟩
                      have HB7 := Lib.hid (HS6.out.be.trans (hb7.mono HS6.out.be.size))
                      clear hb7
                      go_wp2
                      go_ret
                      exact ⟨rfl, HB7.out⟩
      · go_wp2_with fail
        rw [ho]
        refine (lruns HBD.out).mono ?_; rintro e w2 ⟨v, ts, rfl, hts, hown, hb⟩
        have HT := Lib.hid hts
        have H2 := Lib.hid (HBD.out.below hb)
        have HB2 := Lib.hid (HBE.out.trans (hb.mono HBE.out.size))
        have HO2 := Lib.hid (ownsRow_mono hown HBE.out.size)
        clear hts hown hb HBD HBE ha1 ha2 ho
        go_upto_region 13 with fail
        obtain ⟨w3, hmk, hown, hg⟩ := run_makeSlice_full (P := Try.prog) w2 w.heap.size 48 4 i1 (.bool false) 1 Try.underlying48 ki0 kz0 kz1 .i64 .i64 n (by omega) (by rw [kz2]; omega) (by unfold maxLen; omega) HB2.out.size
        rw [made_one _ rfl, bl_made] at hown
        have hb3 : Below w2.heap.size w2 w3 := (Below.refl _ _).grown hg (Nat.le_refl _) (fun _ e => by cases e)
        have HS3 := Lib.hid (show Ls w w3 w.heap.size fi n S B w2.heap.size (fun _ => false) from ⟨H2.out.below hb3, hown, fun h => by have := (H2.out.lt h).2; omega, HB2.out.trans (hb3.mono HB2.out.size)⟩)
        have HO3 := Lib.hid (own_below HO2.out hb3)
        have HNV := Lib.hid (show v.ownBlock ≠ some w2.heap.size from fun e => by have := (HO2.out.lt _ e).2; omega)
        obtain ⟨gw, hgw⟩ : ∃ gw, gw = w2.heap.size := ⟨_, rfl⟩
        rw [← hgw] at hmk HS3 HNV
        clear hgw hown hg hb3 HO2 H2 HB2
        go_wp2_with fail
        go_loopw [15] (WsR w w.heap.size fi n S B gw v ts) (fun v _ => n - cntI v)
        case atStart => exact ⟨0, _, rfl, Nat.zero_le _, HS3.out, fun j hj => absurd hj (Nat.not_lt_zero _), HO3.out⟩
        case round =>
          clear HS3 HO3 hmk
          obtain ⟨i, F, rfl, hi, hls, hF, hro⟩ := hrel
          have HS3 := Lib.hid hls
          have HF := Lib.hid hF
          have HO3 := Lib.hid hro
          clear hls hF hro
          by_cases hin : i < n
          · have g0 : decide ((i : Int) < (n : Int)) = true := by simp; exact hin
            have g0' : decide (i < n) = true := by simp; exact hin
            obtain ⟨k, hk, hk2⟩ : ∃ k : Nat, (fi : Int) + (i : Int) = (k : Int) ∧ k = fi + i := ⟨fi + i, by simp, rfl⟩
            have HK := Lib.hid hk2
            clear hk2
            have CH := lhas HS3.out.bd (k : Int)
            rw [hasF_nat] at CH
            go_wp2_with fail
            refine CH.mono ?_; rintro e w4 ⟨rfl, q, rfl⟩
            have HS4 := Lib.hid (HS3.out.drewN q)
            have HO4 := Lib.hid (own_below HO3.out (below_drewN (Below.refl _ _) q))
            have cw := HS4.out.cell hin
            have cz := HS4.out.frozen i
            have hin2 : (i : Int) < (n : Int) := by omega
            clear CH
            generalize wr.drewN q = w4 at *
            go_wp2
            go_roundw
            case rel => exact ⟨i + 1, upd F i (S k), by go_num, by omega, HS4.out.set i _, fun j hj => by
              unfold upd
              by_cases e : j = i
              · rw [if_pos e, HK.out, e]
              · rw [if_neg e]; exact HF.out j (by omega), own_apart (S := fun k => k = gw) HO4.out ((Only.refl (fun k => k = gw) w4).setCell (p := ⟨gw, i, none⟩) (.inl rfl) _) (fun g hg e => HNV.out (by rw [hg, e]))⟩
            case measure => simp [cntI]; omega
          · have g0 : decide ((i : Int) < (n : Int)) = false := by simp; omega
            have g0' : decide (i < n) = false := by simp; omega
            have HF2 := Lib.hid (show ∀ j, j < n → F j = S (fi + j) from fun j hj => HF.out j (by omega))
            clear HF
            have HF := HF2
            obtain ⟨Av, cv, rfl, hcell⟩ := own_sl HO3.out
            have HC := Lib.hid hcell
            obtain ⟨N, hN⟩ : ∃ N, ts.length = N := ⟨_, rfl⟩
            rw [hN]
            have HN := Lib.hid hN
            have hNb : N ≤ 1200 := by
              have h1 := HT.out.sum (a := fi) (n := n) HS3.out.bd.rng
              have h2 := sumR_len ts
              have h3 := cntS_le S fi n
              omega
            clear hcell hN HO3 HNV HF2
            go_wp2_with fail
            obtain ⟨wo, rfl⟩ : ∃ wo : World, wo = wr := ⟨_, rfl⟩
            go_loopw [16, 17, 18] (FnR ts o wo) (fun _ _ v _ => N - cntI v)
            case atStart => exact ⟨0, -1, 10, rfl, rfl, rfl, Nat.zero_le _, by decide, by decide, .inl ⟨rfl, rfl, fun x hx => by cases hx⟩, 0, rfl⟩
            case round =>
              obtain ⟨i, want, best, rfl, rfl, rfl, hi, hb0, hb10, hfn, q, rfl⟩ := hrel
              have HFN := Lib.hid hfn
              rw [HN.out] at hi
              clear hfn
              by_cases hiN : i < N
              · have g0 : decide ((i : Int) < (N : Int)) = true := by simp; exact hiN
                have g0' : decide (i < N) = true := by simp; exact hiN
                have hiN2 : (i : Int) < (N : Int) := by omega
                obtain ⟨⟨f, p⟩, hx⟩ : ∃ x, ts[i]? = some x := ⟨_, List.getElem?_eq_getElem (by rw [HN.out]; exact hiN)⟩
                have hp9 := ((HT.out.2 f p).1 (List.mem_of_getElem? hx)).le
                obtain ⟨x0, x1⟩ := flat_pv hx
                obtain ⟨ga, rfl, k0⟩ := HC.out _ _ x0
                obtain ⟨_, e9, k1⟩ := HC.out _ _ x1
                cases e9
                have htk : ts.take (i + 1) = ts.take i ++ [(f, p)] := by rw [List.take_add_one, hx]; rfl
                have HLT := Lib.hid (show ∀ x ∈ ts.take i, x.1 ≤ f from fun x hxm => by
                  obtain ⟨j, hj, e⟩ := List.mem_iff_getElem.1 hxm
                  rw [List.length_take] at hj
                  rw [List.getElem_take] at e
                  obtain ⟨q2, e2⟩ := List.getElem?_eq_some_iff.1 hx
                  have := (List.pairwise_iff_getElem.1 HT.out.1) j i (by omega) q2 (by omega)
                  rw [e2, e] at this
                  exact Nat.le_of_lt this)
                have HTK := Lib.hid htk
                clear hx x0 x1 htk
                by_cases k1' : o ≤ p
                · have r1 : decide ((o : Int) ≤ (p : Int)) = true := by simp; exact k1'
                  have r1' : decide (o ≤ p) = true := by simp; exact k1'
                  by_cases k2' : (p : Int) < best
                  · have r2 : decide ((p : Int) < best) = true := by simp; exact k2'
                    go_wp2_with fail
                    go_quiet (fail)
                    go_wp2
                    go_roundw
                    case rel => exact ⟨i + 1, f, p, by go_num, rfl, rfl, by rw [HN.out]; omega, by omega, by omega, by rw [HTK.out]; exact HFN.out.new k1' k2', _, rfl⟩
                    case measure => simp [cntI]; omega
                  · have r2 : decide ((p : Int) < best) = false := by simp; omega
                    go_wp2
                    go_roundw
                    case rel => exact ⟨i + 1, want, best, by go_num, rfl, rfl, by rw [HN.out]; omega, hb0, hb10, by rw [HTK.out]; exact HFN.out.same hp9 (fun h => k2' h.2) HLT.out, _, rfl⟩
                    case measure => simp [cntI]; omega
                · have r1 : decide ((o : Int) ≤ (p : Int)) = false := by simp; omega
                  have r1' : decide (o ≤ p) = false := by simp; omega
                  go_wp2
                  go_roundw
                  case rel => exact ⟨i + 1, want, best, by go_num, rfl, rfl, by rw [HN.out]; omega, hb0, hb10, by rw [HTK.out]; exact HFN.out.same hp9 (fun h => k1' h.1) HLT.out, _, rfl⟩
                  case measure => simp [cntI]; omega
              · have g0 : decide ((i : Int) < (N : Int)) = false := by simp; omega
                have g0' : decide (i < N) = false := by simp; omega
                have HS4 := Lib.hid (HS3.out.drewN q)
                have hfn := HFN.out
                rw [List.take_of_length_le (by rw [HN.out]; omega)] at hfn
                have hle := hfn.least HT.out
                generalize wo.drewN q = w4 at *
                clear hfn HFN HC
                rcases hle with ⟨rfl, hno⟩ | ⟨f, kk, rfl, hle⟩
                · have CT := ltake_none HS4.out.bd ho10 hno
                  have HNO := Lib.hid hno
                  clear hno
                  go_wp2_with fail
                  refine CT.mono ?_; rintro e w5 ⟨rfl, rfl⟩
                  have HS5 := HS4
                  obtain ⟨w5, rfl⟩ : ∃ w5 : World, w5 = w4 := ⟨_, rfl⟩
                  clear CT
                  go_wp2_with fail
                  go_loopw [21] (LsR w w.heap.size fi n S B gw F) (fun v _ => n - cntI v)
                  case atStart => exact ⟨0, rfl, Nat.zero_le _, HS5.out⟩
                  case round =>
                    clear HS5
                    obtain ⟨i, rfl, hi, hls⟩ := hrel
                    have HS6 := Lib.hid hls
                    clear hls
                    by_cases hin : i < n
                    · have g0 : decide ((i : Int) < (n : Int)) = true := by simp; exact hin
                      have g0' : decide (i < n) = true := by simp; exact hin
                      have hin2 : (i : Int) < (n : Int) := by omega
                      obtain ⟨k, hk, hk2⟩ : ∃ k : Nat, (fi : Int) + (i : Int) = (k : Int) ∧ k = fi + i := ⟨fi + i, by simp, rfl⟩
                      have cw := HS6.out.cell hin
                      rw [HF.out i hin, ← hk2] at cw
                      have HK := Lib.hid hk2
                      clear hk2
                      cases hb : S k
                      · rw [hb] at cw
                        have HV := Lib.hid hb
                        clear hb
                        have HBI := Lib.hid (hasF_nat S k)
                        have CH := fun q => lhas (HS6.out.bd.drewN q) (k : Int)
                        rw [HBI.out, HV.out] at CH
                        have CHH := Lib.hid CH
                        clear CH
                        go_wp2_with fail
                        go_quiet ((go_at_call 17; refine quiet_drew (CHH.out _)))
                        go_wp2
                        go_roundw
                        case rel => exact ⟨i + 1, by go_num, by omega, HS6.out.drewN _⟩
                        case measure => simp [cntI]; omega
                      · rw [hb] at cw
                        have HV := Lib.hid hb
                        clear hb
                        have HBI := Lib.hid (hasF_nat S k)
                        have CH := fun q => lhas (HS6.out.bd.drewN q) (k : Int)
                        rw [HBI.out, HV.out] at CH
                        have CHH := Lib.hid CH
                        clear CH
                        go_wp2_with fail
                        go_quiet ((go_at_call 17; refine quiet_drew (CHH.out _)))
                        go_wp2
                        go_roundw
                        case rel => exact ⟨i + 1, by go_num, by omega, HS6.out.drewN _⟩
                        case measure => simp [cntI]; omega
                    · have g0 : decide ((i : Int) < (n : Int)) = false := by simp; omega
                      have g0' : decide (i < n) = false := by simp; omega
                      go_wp2_with fail
                      refine (told_any _).mono ?_; rintro e w7 ⟨rfl, hb7⟩
                      have HB7 := Lib.hid (HS6.out.be.trans (hb7.mono HS6.out.be.size))
                      clear hb7
                      go_wp2
                      go_ret
                      exact ⟨rfl, HB7.out⟩
                · have CT := ltake_some HS4.out.bd hle
                  have HLE := Lib.hid hle
                  obtain ⟨m1, m2, m3⟩ := HS4.out.bd.mx hle.mx
                  have hf6 : f ≤ 6000 := by have := Bud.pow_pos kk; omega
                  obtain ⟨t, ht, ht2, ht3, ht4⟩ : ∃ t : Nat, (2 : Int) ^ o = (t : Int) ∧ t ≤ 512 ∧ t = 2 ^ o ∧ 0 < t := ⟨2 ^ o, by simp, by have := Bud.pow_le (show o ≤ 9 by omega); omega, rfl, Nat.two_pow_pos o⟩
                  obtain ⟨s', hs1, hs2⟩ : ∃ s : Nat, (f : Int) + (t : Int) = (s : Int) ∧ s = f + 2 ^ o := ⟨f + t, by simp, by rw [ht3]⟩
                  have HT2 := Lib.hid ht3
                  have HS' := Lib.hid hs2
                  clear hle ht3 hs2 m2
                  go_wp2_with fail
                  refine CT.mono ?_; rintro e w5 ⟨rfl, ht9⟩
                  obtain ⟨B5, hls5⟩ := HS4.out.to ht9
                  have HS5 := Lib.hid hls5
                  clear hls5 ht9 CT
                  go_wp2_with fail
                  go_loopw [21] (LsR w w.heap.size fi n (Bud.less S f o) B5 gw F) (fun v _ => n - cntI v)
                  case atStart => exact ⟨0, rfl, Nat.zero_le _, HS5.out⟩
                  case round =>
                    clear HS5
                    obtain ⟨i, rfl, hi, hls⟩ := hrel
                    have HS6 := Lib.hid hls
                    clear hls
                    by_cases hin : i < n
                    · have g0 : decide ((i : Int) < (n : Int)) = true := by simp; exact hin
                      have g0' : decide (i < n) = true := by simp; exact hin
                      have hin2 : (i : Int) < (n : Int) := by omega
                      obtain ⟨k, hk, hk2⟩ : ∃ k : Nat, (fi : Int) + (i : Int) = (k : Int) ∧ k = fi + i := ⟨fi + i, by simp, rfl⟩
                      have cw := HS6.out.cell hin
                      rw [HF.out i hin, ← hk2] at cw
                      have HK := Lib.hid hk2
                      clear hk2
                      by_cases k1 : f ≤ k
                      · have r1 : decide ((f : Int) ≤ (k : Int)) = true := by simp; exact k1
                        have r1' : decide (f ≤ k) = true := by simp; exact k1
                        by_cases k2 : k < s'
                        · have r2 : decide ((k : Int) < (s' : Int)) = true := by simp; exact k2
                          have r2' : decide (k < s') = true := by simp; exact k2
                          have hb : S k = true := HLE.out.mx.all k k1 (by have := HS'.out; have := Bud.pow_le HLE.out.ok; omega)
                          rw [hb] at cw
                          have HV := Lib.hid (show Bud.less S f o k = false from by
                            cases hl : Bud.less S f o k
                            · rfl
                            · exact absurd ⟨k1, by have := HS'.out; omega⟩ (Bud.less_iff.1 hl).2)
                          clear hb
                          have HBI := Lib.hid (hasF_nat (Bud.less S f o) k)
                          have CH := fun q => lhas (HS6.out.bd.drewN q) (k : Int)
                          rw [HBI.out, HV.out] at CH
                          have CHH := Lib.hid CH
                          clear CH
                          go_wp2_with fail
                          go_quiet ((go_at_call 17; refine quiet_drew (CHH.out _)))
                          go_wp2
                          go_roundw
                          case rel => exact ⟨i + 1, by go_num, by omega, HS6.out.drewN _⟩
                          case measure => simp [cntI]; omega
                        · have r2 : decide ((k : Int) < (s' : Int)) = false := by simp; omega
                          have r2' : decide (k < s') = false := by simp; omega
                          have hl : Bud.less S f o k = S k := by
                            unfold Bud.less
                            rw [show decide (k < f + 2 ^ o) = false by have := HS'.out; simp; omega]; simp
                          cases hb : S k
                          · rw [hb] at cw hl
                            have HV := Lib.hid hl
                            clear hb hl
                            have HBI := Lib.hid (hasF_nat (Bud.less S f o) k)
                            have CH := fun q => lhas (HS6.out.bd.drewN q) (k : Int)
                            rw [HBI.out, HV.out] at CH
                            have CHH := Lib.hid CH
                            clear CH
                            go_wp2_with fail
                            go_quiet ((go_at_call 17; refine quiet_drew (CHH.out _)))
                            go_wp2
                            go_roundw
                            case rel => exact ⟨i + 1, by go_num, by omega, HS6.out.drewN _⟩
                            case measure => simp [cntI]; omega
                          · rw [hb] at cw hl
                            have HV := Lib.hid hl
                            clear hb hl
                            have HBI := Lib.hid (hasF_nat (Bud.less S f o) k)
                            have CH := fun q => lhas (HS6.out.bd.drewN q) (k : Int)
                            rw [HBI.out, HV.out] at CH
                            have CHH := Lib.hid CH
                            clear CH
                            go_wp2_with fail
                            go_quiet ((go_at_call 17; refine quiet_drew (CHH.out _)))
                            go_wp2
                            go_roundw
                            case rel => exact ⟨i + 1, by go_num, by omega, HS6.out.drewN _⟩
                            case measure => simp [cntI]; omega
                      · have r1 : decide ((f : Int) ≤ (k : Int)) = false := by simp; omega
                        have r1' : decide (f ≤ k) = false := by simp; omega
                        have hl : Bud.less S f o k = S k := by
                          unfold Bud.less
                          rw [show decide (f ≤ k) = false by simp; omega]; simp
                        cases hb : S k
                        · rw [hb] at cw hl
                          have HV := Lib.hid hl
                          clear hb hl
                          have HBI := Lib.hid (hasF_nat (Bud.less S f o) k)
                          have CH := fun q => lhas (HS6.out.bd.drewN q) (k : Int)
                          rw [HBI.out, HV.out] at CH
                          have CHH := Lib.hid CH
                          clear CH
                          go_wp2_with fail
                          go_quiet ((go_at_call 17; refine quiet_drew (CHH.out _)))
                          go_wp2
                          go_roundw
                          case rel => exact ⟨i + 1, by go_num, by omega, HS6.out.drewN _⟩
                          case measure => simp [cntI]; omega
                        · rw [hb] at cw hl
                          have HV := Lib.hid hl
                          clear hb hl
                          have HBI := Lib.hid (hasF_nat (Bud.less S f o) k)
                          have CH := fun q => lhas (HS6.out.bd.drewN q) (k : Int)
                          rw [HBI.out, HV.out] at CH
                          have CHH := Lib.hid CH
                          clear CH
                          go_wp2_with fail
                          go_quiet ((go_at_call 17; refine quiet_drew (CHH.out _)))
                          go_wp2
                          go_roundw
                          case rel => exact ⟨i + 1, by go_num, by omega, HS6.out.drewN _⟩
                          case measure => simp [cntI]; omega
                    · have g0 : decide ((i : Int) < (n : Int)) = false := by simp; omega
                      have g0' : decide (i < n) = false := by simp; omega
                      go_wp2_with fail
                      refine (told_any _).mono ?_; rintro e w7 ⟨rfl, hb7⟩
                      have HB7 := Lib.hid (HS6.out.be.trans (hb7.mono HS6.out.be.size))
                      clear hb7
                      go_wp2
                      go_ret
                      exact ⟨rfl, HB7.out⟩
end Go.Proofs.Ytmmjkebhcihjlaa
