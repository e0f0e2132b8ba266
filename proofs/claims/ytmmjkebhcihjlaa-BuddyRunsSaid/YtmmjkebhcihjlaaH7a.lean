/- The walk of the statement BuddyRuns: it returns true. -/
import Derived.Test.YtmmjkebhcihjlaaBuj
namespace Go.Proofs.Ytmmjkebhcihjlaa
open Go.RowKit

/-- The steps ahead. -/
def StR (w : World) (c fi n : Nat) (v : Value) (wr : World) : Prop := ∃ (i : Nat) (S : Nat → Bool) (B : Nat → Prop), v = .int .i64 i ∧ i ≤ 60 ∧ BdAt wr w.heap.size c fi n S B ∧ Below w.heap.size w wr
/-- The look at the runs. -/
def LkR (ts : List (Nat × Nat)) (wo : World) (ve vt vi : Value) (wr : World) : Prop := ∃ i E : Nat, vi = .int .i64 i ∧ ve = .int .i64 E ∧ vt = .int .i64 (sumR (ts.take i) : Nat) ∧ i ≤ ts.length ∧ E ≤ 2097152 ∧ (∀ x, ts[i]? = some x → E ≤ x.1) ∧ ∃ q, wr = wo.drewN q

theorem own_sl {w : World} {base size n : Nat} {e : TypeId} {v : Value} {xs : List Value} (h : w.ownsRow base e size v n xs) : ∃ A cc, v = .slice A n cc ∧ ∀ j u, xs[j]? = some u → ∃ g, A = some ⟨g, 0, none⟩ ∧ w.cell? ⟨g, j, none⟩ = some u := by
  obtain ⟨A, m, cc, rfl⟩ := own_form h
  rcases h.2 with ⟨e, h0⟩ | ⟨g, cap, cur, e, _⟩
  · injection e with e1 e2 e3
    subst e1 e2 e3
    refine ⟨_, _, by rw [h0], fun j u hj => ?_⟩
    have hl := h.1
    rw [h0, Nat.zero_mul] at hl
    have := List.eq_nil_of_length_eq_zero hl
    rw [this] at hj; cases hj
  · injection e with e1 e2 e3
    subst e1 e2 e3
    refine ⟨_, _, rfl, fun j u hj => ⟨g, rfl, ?_⟩⟩
    have hj' := (List.getElem?_eq_some_iff.1 hj).1
    rw [h.cellAt j (by rw [← h.1]; exact hj'), hj]

theorem flat_pv {ts : List (Nat × Nat)} {i f o : Nat} (h : ts[i]? = some (f, o)) : (ts.flatMap pv)[i * 2]? = some (.int .i64 (f : Int)) ∧ (ts.flatMap pv)[i * 2 + 1]? = some (.int .i64 (o : Int)) :=
  ⟨(flat_get pv_len ts i 0 (f, o) h (by omega)).trans rfl, (flat_get pv_len ts i 1 (f, o) h (by omega)).trans rfl⟩

theorem sumR_take {ts : List (Nat × Nat)} {i f o : Nat} (h : ts[i]? = some (f, o)) : sumR (ts.take (i + 1)) = sumR (ts.take i) + 2 ^ o := by
  unfold sumR
  rw [List.take_add_one, h]
  simp

theorem sumR_len : ∀ (ts : List (Nat × Nat)), ts.length ≤ sumR ts
  | [] => Nat.le_refl _
  | (f, o) :: ts => by
    have := sumR_len ts
    have hp := Bud.pow_pos o
    unfold sumR at *
    rw [List.map_cons, List.sum_cons, List.length_cons]
    have e : 2 ^ (f, o).2 = 2 ^ o := rfl
    omega
theorem sumR_take_le (ts : List (Nat × Nat)) (i : Nat) : sumR (ts.take i) ≤ sumR ts := by
  have e : ts = ts.take i ++ ts.drop i := (List.take_append_drop i ts).symm
  have : sumR ts = sumR (ts.take i) + sumR (ts.drop i) := by
    unfold sumR
    rw [← List.sum_append, ← List.map_append, List.take_append_drop]
  omega
theorem RunsOf.next {S : Nat → Bool} {ts : List (Nat × Nat)} (h : RunsOf S ts) {i f o : Nat} {x : Nat × Nat} (h1 : ts[i]? = some (f, o)) (h2 : ts[i + 1]? = some x) : f + 2 ^ o ≤ x.1 := by
  obtain ⟨q1, e1⟩ := List.getElem?_eq_some_iff.1 h1
  obtain ⟨q2, e2⟩ := List.getElem?_eq_some_iff.1 h2
  have := (List.pairwise_iff_getElem.1 h.apart) i (i + 1) q1 q2 (by omega)
  rw [e1, e2] at this
  exact this

set_option maxRecDepth 100000 in
set_option maxHeartbeats 8000000 in
theorem buddyRuns_walk (A0 A1 : Int) (A : Option Addr) (m c : Nat) (xs : List Value) (w : World) (hr : Reads w w.heap.size 3 A m xs) (hx : CellsR [.i .i64, .i .i64, .i .i64] xs) :
    Calls Try.prog 6 #[.int .i64 A0, .int .i64 A1, .slice A m c] w fun e w' => e = .returned (.bool true) ∧ Below w.heap.size w w' := by
  have HR := Lib.hid hr
  have HX := Lib.hid hx
  obtain ⟨fi, z, y, n, hm1, hfi, hm2, hz, hm3, hm4, hn1, hn2⟩ := args_of A0 A1
  clear hr hx
  go_enter Try.func6, Try.ntmps6
  go_wp2_with fail
  refine (lnew_ok fi n _ (by omega) (by omega)).mono ?_; rintro e w1 ⟨rfl, ⟨B1, h1⟩, hb1⟩
  have H1 := Lib.hid h1
  have HB1 := Lib.hid hb1
  clear h1 hb1 hm1 hm2 hm3 hm4
  go_wp2_with fail
  go_loopw [9] (StR w w.heap.size fi n) (fun v _ => 60 - cntI v)
  case atStart => exact ⟨0, _, _, rfl, by omega, H1.out, HB1.out⟩
  case round =>
    obtain ⟨i, S, B, rfl, hi, hbd, hbe⟩ := hrel
    have HBD := Lib.hid hbd
    have HBE := Lib.hid hbe
    clear hbd hbe
    by_cases hlt : i < m ∧ i < 60
    · obtain ⟨l1, l2⟩ := hlt
      obtain ⟨ad, rfl, hadb, hcell⟩ := (HR.out.below HBE.out).2 (by omega)
      have hlen := HR.out.1
      have hint : ∀ q k, q < 3 → ([.i .i64, .i .i64, .i .i64] : List CK)[q]? = some (.i k) → ∃ z, wr.cell? (ad.add (i * 3 + q)) = some (.int k z) ∧ (Lit.int k z).wf = true := fun q k hq hk => by
        have hq' : i * 3 + q < xs.length := by omega
        obtain ⟨z, hz, hwz⟩ := HX.out.int hq' (kind_at (ks := [.i .i64, .i .i64, .i .i64]) hq hk)
        exact ⟨z, hcell _ _ hz, hwz⟩
      obtain ⟨kd, hc0, _⟩ := hint 0 .i64 (by decide) rfl
      rw [Nat.add_zero] at hc0
      obtain ⟨fr, hc1, _⟩ := hint 1 .i64 (by decide) rfl
      obtain ⟨od, hc2, _⟩ := hint 2 .i64 (by decide) rfl
      rw [add_field' _ _ _ (by decide)] at hc1 hc2
      clear hcell hint hlen
      have hm1 : bits .and .i64 kd 1 = kd % 2 := mask64 kd 1 (by omega)
      rcases (show kd % 2 = 0 ∨ kd % 2 = 1 by omega) with hk | hk
      · rw [hk] at hm1
        clear hk
        obtain ⟨o, ho⟩ : ∃ o, bits .and .i64 od 7 = o := ⟨_, rfl⟩
        go_wp2_with fail
        refine (ltake_any HBD.out o).mono ?_
        rintro e w2 ⟨f, r, S2, rfl, ht⟩
        have HBE2 := Lib.hid (ht.bel HBE.out HBD.out (Nat.le_refl _))
        obtain ⟨B2, h2, _, _⟩ := ht
        have H2 := Lib.hid h2
        clear h2
        go_wp2
        go_roundw
        case rel => exact ⟨i + 1, S2, B2, by go_num, by omega, H2.out, HBE2.out⟩
        case measure => simp [cntI]; omega
      · rw [hk] at hm1
        clear hk
        have hm2 : bits .and .i64 od 3 = od % 4 := mask64 od 2 (by omega)
        obtain ⟨o, ho⟩ : ∃ o : Nat, od % 4 = o := ⟨(od % 4).toNat, by omega⟩
        have ho4 : o < 4 := by omega
        rw [ho] at hm2
        clear ho
        obtain ⟨r1, hr1⟩ : ∃ r, fr.tmod (n : Int) = r := ⟨_, rfl⟩
        have hb1 := tmod_bdn fr n (by omega)
        rw [hr1] at hb1
        obtain ⟨b1, b2⟩ := hb1
        obtain ⟨r2, hr2⟩ : ∃ r : Nat, r1 + (n : Int) = (r : Int) := ⟨(r1 + (n : Int)).toNat, by omega⟩
        obtain ⟨r3, hr3, hr4⟩ : ∃ r : Nat, (r2 : Int) % (n : Int) = (r : Int) ∧ r < n := ⟨r2 % n, by simp, Nat.mod_lt _ (by omega)⟩
        obtain ⟨t, ht, ht2⟩ : ∃ t : Nat, (2 : Int) ^ o = (t : Int) ∧ t ≤ 16 := ⟨2 ^ o, by simp, by have := Bud.pow_le (show o ≤ 4 by omega); omega⟩
        have hn0 : ¬ n = 0 := by omega
        go_wp2_with fail
        refine (lgive_any HBD.out _ (o : Int)).mono ?_
        rintro e w2 ⟨r, S2, rfl, ht⟩
        have HBE2 := Lib.hid (ht.bel HBE.out HBD.out (Nat.le_refl _))
        obtain ⟨B2, h2, _, _⟩ := ht
        have H2 := Lib.hid h2
        clear h2
        go_wp2
        go_roundw
        case rel => exact ⟨i + 1, S2, B2, by go_num, by omega, H2.out, HBE2.out⟩
        case measure => simp [cntI]; omega
    · have hlt' : m ≤ i ∨ (i < m ∧ 60 ≤ i) := by omega
      clear hlt
      rcases hlt' with h | ⟨h1, h2⟩
      · go_wp2_with fail
        refine (lruns HBD.out).mono ?_; rintro e w2 ⟨v, ts, rfl, hts, hown, hb⟩
        have HT := Lib.hid hts
        have H2 := Lib.hid (HBD.out.below hb)
        have HB2 := Lib.hid (HBE.out.trans (hb.mono HBE.out.size))
        obtain ⟨Av, cv, rfl, hcell⟩ := own_sl hown
        have HC := Lib.hid hcell
        obtain ⟨N, hN⟩ : ∃ N, ts.length = N := ⟨_, rfl⟩
        rw [hN]
        have HN := Lib.hid hN
        clear hts hown hb hcell hN HBD HBE
        go_wp2_with fail
        obtain ⟨wo, rfl⟩ : ∃ wo : World, wo = w2 := ⟨_, rfl⟩
        go_loopw [12, 13, 14] (LkR ts wo) (fun _ _ v _ => N - cntI v)
        case atStart => exact ⟨0, 0, rfl, rfl, by simp [sumR], Nat.zero_le _, by omega, fun _ _ => Nat.zero_le _, 0, rfl⟩
        case round =>
          obtain ⟨i, E, rfl, rfl, rfl, hi, hE, hEx, q, rfl⟩ := hrel
          have HEX := Lib.hid hEx
          have HTK := Lib.hid (HT.out.sum (a := fi) (n := n) H2.out.rng)
          rw [HN.out] at hi
          obtain ⟨sm, hsm⟩ : ∃ sm, sumR (ts.take i) = sm := ⟨_, rfl⟩
          rw [hsm]
          have HSM := Lib.hid hsm
          have hcl := cntS_le S fi n
          have hsmb : sm ≤ 1200 := by
            have := sumR_take_le ts i
            have := HTK.out
            omega
          have hNb : N ≤ 1200 := by
            have := sumR_len ts
            have := HTK.out
            have := HN.out
            omega
          clear hEx hsm
          by_cases hiN : i < N
          · have g0 : decide ((i : Int) < (N : Int)) = true := by simp; exact hiN
            have g0' : decide (i < N) = true := by simp; exact hiN
            obtain ⟨⟨f, o⟩, hx⟩ : ∃ x, ts[i]? = some x := ⟨_, List.getElem?_eq_getElem (by rw [HN.out]; exact hiN)⟩
            have hEf : E ≤ f := HEX.out _ hx
            have hmx := (HT.out.2 f o).1 (List.mem_of_getElem? hx)
            obtain ⟨m1, m2, m3⟩ := H2.out.mx hmx
            obtain ⟨t, ht, ht2, ht3, ht4⟩ : ∃ t : Nat, (2 : Int) ^ o = (t : Int) ∧ t ≤ 512 ∧ t = 2 ^ o ∧ 0 < t := ⟨2 ^ o, by simp, by have := Bud.pow_le m3; omega, rfl, Nat.two_pow_pos o⟩
            have hal : (f : Int) % (t : Int) = 0 := by
              have := hmx.al
              rw [← ht3] at this
              omega
            rw [← ht3] at m2
            have hsl := sumR_take hx
            rw [HSM.out, ← ht3] at hsl
            obtain ⟨x0, x1⟩ := flat_pv hx
            obtain ⟨ga, rfl, k0⟩ := HC.out _ _ x0
            obtain ⟨_, e9, k1⟩ := HC.out _ _ x1
            cases e9
            have HX2 := Lib.hid hx
            have HSL := Lib.hid hsl
            have HTP := Lib.hid ht3
            have g1 : decide ((o : Int) < 0) = false := by simp
            have g2 : decide ((9 : Int) < (o : Int)) = false := by simp; omega
            have g3 : decide ((f : Int) < (fi : Int)) = false := by simp; omega
            have g4 : decide ((n : Int) - (t : Int) < (f : Int) - (fi : Int)) = false := by simp; omega
            have g5 : decide ((f : Int) < (E : Int)) = false := by simp; omega
            have ht6 : ¬ t = 0 := by omega
            clear hmx hx hsl x0 x1 ht3
            by_cases hi0 : i = 0
            · have q0 : decide ((0 : Int) < (i : Int)) = false := by simp; exact hi0
              have q1 : decide (0 < i) = false := by simp; exact hi0
              clear hi0
              go_wp2_with fail
              go_quiet (fail)
              go_wp2_with fail
              exact ⟨⟨i + 1, f + t, by go_num, by go_num, by rw [HSL.out]; go_num, by rw [HN.out]; omega, by omega, fun x hx => by rw [HTP.out]; exact HT.out.next HX2.out hx, q + nq, rfl⟩, by simp [cntI]; omega⟩
            · have q0 : decide ((0 : Int) < (i : Int)) = true := by simp; omega
              have q1 : decide (0 < i) = true := by simp; omega
              obtain ⟨j, hj, hj2⟩ : ∃ j : Nat, (i : Int) - 1 = (j : Int) ∧ i = j + 1 := ⟨i - 1, by omega, by omega⟩
              obtain ⟨⟨g, p⟩, hx'⟩ : ∃ x, ts[j]? = some x := ⟨_, List.getElem?_eq_getElem (by rw [HN.out]; omega)⟩
              obtain ⟨y0, y1⟩ := flat_pv hx'
              obtain ⟨_, e9, j0⟩ := HC.out _ _ y0
              cases e9
              obtain ⟨_, e9, j1⟩ := HC.out _ _ y1
              cases e9
              have hmy := (HT.out.2 g p).1 (List.mem_of_getElem? hx')
              obtain ⟨n1, n2, n3⟩ := H2.out.mx hmy
              have hpp := Bud.pow_pos p
              have hjN : j < N := by omega
              have hjN2 : (j : Int) < (N : Int) := by omega
              have HX3 := Lib.hid hx'
              have HJ := Lib.hid hj2
              have HGB := Lib.hid (show g ≤ 1048576 from by have := H2.out.hi; omega)
              clear hi0 hj2 y0 y1 hx' hmy n2 hpp
              by_cases hpo : p = o
              · have hpo2 : decide (p = o) = true := by simp; exact hpo
                have HPO := Lib.hid hpo
                rw [hpo] at j1
                clear hpo hpo2
                by_cases ho9 : o < 9
                · have r0 : decide ((o : Int) < 9) = true := by simp; omega
                  have r0' : decide (o < 9) = true := by simp; omega
                  have hgb := HGB.out
                  obtain ⟨s', hs', hs2⟩ : ∃ s : Nat, (g : Int) + (t : Int) = (s : Int) ∧ s = g + t := ⟨g + t, by simp, rfl⟩
                  by_cases hf : f = s'
                  · have HF := Lib.hid hf
                    subst hf
                    obtain ⟨t2, ht2', ht3'⟩ : ∃ t2 : Nat, (2 : Int) * (t : Int) = (t2 : Int) ∧ t2 = 2 * t := ⟨2 * t, by simp, rfl⟩
                    obtain ⟨r, hr, hr2⟩ : ∃ r : Nat, (g : Int) % (t2 : Int) = (r : Int) ∧ r = g % t2 := ⟨g % t2, by simp, rfl⟩
                    have hrn : ¬ r = 0 := fun e => by
                      have := HT.out.no_join (g := g) (f := f) (o := o) (by have := List.mem_of_getElem? HX3.out; rw [HPO.out] at this; exact this) (List.mem_of_getElem? HX2.out) ho9 (by rw [← HTP.out]; exact hs2)
                      rw [Bud.pow_succ', ← HTP.out] at this
                      exact this (by rw [show t + t = t2 by omega, ← hr2]; exact e)
                    have r1 : ((r : Int) == 0) = false := by simp; omega
                    have r2 : (r == 0) = false := by simp; omega
                    have ht20 : ¬ t2 = 0 := by omega
                    clear hrn hr2 ht3' hs2
                    go_wp2_with fail
                    go_quiet (fail)
                    go_wp2_with fail
                    exact ⟨⟨i + 1, f + t, by go_num, by go_num, by rw [HSL.out]; go_num, by rw [HN.out]; omega, by omega, fun x hx => by rw [HTP.out]; exact HT.out.next HX2.out hx, q + nq, rfl⟩, by simp [cntI]; omega⟩
                  · have r1 : ((f : Int) == (s' : Int)) = false := by simp; omega
                    have r2 : (f == s') = false := by simp; exact hf
                    clear hf hs2
                    go_wp2_with fail
                    go_quiet (fail)
                    go_wp2_with fail
                    exact ⟨⟨i + 1, f + t, by go_num, by go_num, by rw [HSL.out]; go_num, by rw [HN.out]; omega, by omega, fun x hx => by rw [HTP.out]; exact HT.out.next HX2.out hx, q + nq, rfl⟩, by simp [cntI]; omega⟩
                · have r0 : decide ((o : Int) < 9) = false := by simp; omega
                  have r0' : decide (o < 9) = false := by simp; omega
                  go_wp2_with fail
                  go_quiet (fail)
                  go_wp2_with fail
                  exact ⟨⟨i + 1, f + t, by go_num, by go_num, by rw [HSL.out]; go_num, by rw [HN.out]; omega, by omega, fun x hx => by rw [HTP.out]; exact HT.out.next HX2.out hx, q + nq, rfl⟩, by simp [cntI]; omega⟩
              · have r1 : ((p : Int) == (o : Int)) = false := by simp; omega
                have r2 : (p == o) = false := by simp; exact hpo
                clear hpo
                go_wp2_with fail
                go_quiet (fail)
                go_wp2_with fail
                exact ⟨⟨i + 1, f + t, by go_num, by go_num, by rw [HSL.out]; go_num, by rw [HN.out]; omega, by omega, fun x hx => by rw [HTP.out]; exact HT.out.next HX2.out hx, q + nq, rfl⟩, by simp [cntI]; omega⟩
          · have g0 : decide ((i : Int) < (N : Int)) = false := by simp; omega
            have g0' : decide (i < N) = false := by simp; omega
            have hsm2 : cntS S fi n = sm := by
              rw [← HTK.out, ← HSM.out, List.take_of_length_le (by rw [HN.out]; omega)]
            have C := lfree (H2.out.drewN q)
            rw [hsm2] at C
            clear C
            have HS2 := Lib.hid hsm2
            clear hsm2
            have H3 := Lib.hid (H2.out.drewN q)
            have HB3 := Lib.hid (below_drewN HB2.out q)
            generalize wo.drewN q = w3 at *
            go_wp2_with fail
            refine (told_any _).mono ?_; rintro e w4 ⟨rfl, hb4⟩
            have C := lfree (H3.out.below hb4)
            rw [HS2.out] at C
            have HB4 := Lib.hid (HB3.out.trans (hb4.mono HB3.out.size))
            clear hb4
            go_wp2_with fail
            refine C.mono ?_; rintro e w5 ⟨rfl, rfl⟩
            clear C
            go_wp2
            go_ret
            exact ⟨rfl, HB4.out⟩
      · go_wp2_with fail
        refine (lruns HBD.out).mono ?_; rintro e w2 ⟨v, ts, rfl, hts, hown, hb⟩
        have HT := Lib.hid hts
        have H2 := Lib.hid (HBD.out.below hb)
        have HB2 := Lib.hid (HBE.out.trans (hb.mono HBE.out.size))
        obtain ⟨Av, cv, rfl, hcell⟩ := own_sl hown
        have HC := Lib.hid hcell
        obtain ⟨N, hN⟩ : ∃ N, ts.length = N := ⟨_, rfl⟩
        rw [hN]
        have HN := Lib.hid hN
        clear hts hown hb hcell hN HBD HBE
        go_wp2_with fail
        obtain ⟨wo, rfl⟩ : ∃ wo : World, wo = w2 := ⟨_, rfl⟩
        go_loopw [12, 13, 14] (LkR ts wo) (fun _ _ v _ => N - cntI v)
        case atStart => exact ⟨0, 0, rfl, rfl, by simp [sumR], Nat.zero_le _, by omega, fun _ _ => Nat.zero_le _, 0, rfl⟩
        case round =>
          obtain ⟨i, E, rfl, rfl, rfl, hi, hE, hEx, q, rfl⟩ := hrel
          have HEX := Lib.hid hEx
          have HTK := Lib.hid (HT.out.sum (a := fi) (n := n) H2.out.rng)
          rw [HN.out] at hi
          obtain ⟨sm, hsm⟩ : ∃ sm, sumR (ts.take i) = sm := ⟨_, rfl⟩
          rw [hsm]
          have HSM := Lib.hid hsm
          have hcl := cntS_le S fi n
          have hsmb : sm ≤ 1200 := by
            have := sumR_take_le ts i
            have := HTK.out
            omega
          have hNb : N ≤ 1200 := by
            have := sumR_len ts
            have := HTK.out
            have := HN.out
            omega
          clear hEx hsm
          by_cases hiN : i < N
          · have g0 : decide ((i : Int) < (N : Int)) = true := by simp; exact hiN
            have g0' : decide (i < N) = true := by simp; exact hiN
            obtain ⟨⟨f, o⟩, hx⟩ : ∃ x, ts[i]? = some x := ⟨_, List.getElem?_eq_getElem (by rw [HN.out]; exact hiN)⟩
            have hEf : E ≤ f := HEX.out _ hx
            have hmx := (HT.out.2 f o).1 (List.mem_of_getElem? hx)
            obtain ⟨m1, m2, m3⟩ := H2.out.mx hmx
            obtain ⟨t, ht, ht2, ht3, ht4⟩ : ∃ t : Nat, (2 : Int) ^ o = (t : Int) ∧ t ≤ 512 ∧ t = 2 ^ o ∧ 0 < t := ⟨2 ^ o, by simp, by have := Bud.pow_le m3; omega, rfl, Nat.two_pow_pos o⟩
            have hal : (f : Int) % (t : Int) = 0 := by
              have := hmx.al
              rw [← ht3] at this
              omega
            rw [← ht3] at m2
            have hsl := sumR_take hx
            rw [HSM.out, ← ht3] at hsl
            obtain ⟨x0, x1⟩ := flat_pv hx
            obtain ⟨ga, rfl, k0⟩ := HC.out _ _ x0
            obtain ⟨_, e9, k1⟩ := HC.out _ _ x1
            cases e9
            have HX2 := Lib.hid hx
            have HSL := Lib.hid hsl
            have HTP := Lib.hid ht3
            have g1 : decide ((o : Int) < 0) = false := by simp
            have g2 : decide ((9 : Int) < (o : Int)) = false := by simp; omega
            have g3 : decide ((f : Int) < (fi : Int)) = false := by simp; omega
            have g4 : decide ((n : Int) - (t : Int) < (f : Int) - (fi : Int)) = false := by simp; omega
            have g5 : decide ((f : Int) < (E : Int)) = false := by simp; omega
            have ht6 : ¬ t = 0 := by omega
            clear hmx hx hsl x0 x1 ht3
            by_cases hi0 : i = 0
            · have q0 : decide ((0 : Int) < (i : Int)) = false := by simp; exact hi0
              have q1 : decide (0 < i) = false := by simp; exact hi0
              clear hi0
              go_wp2_with fail
              go_quiet (fail)
              go_wp2_with fail
              exact ⟨⟨i + 1, f + t, by go_num, by go_num, by rw [HSL.out]; go_num, by rw [HN.out]; omega, by omega, fun x hx => by rw [HTP.out]; exact HT.out.next HX2.out hx, q + nq, rfl⟩, by simp [cntI]; omega⟩
            · have q0 : decide ((0 : Int) < (i : Int)) = true := by simp; omega
              have q1 : decide (0 < i) = true := by simp; omega
              obtain ⟨j, hj, hj2⟩ : ∃ j : Nat, (i : Int) - 1 = (j : Int) ∧ i = j + 1 := ⟨i - 1, by omega, by omega⟩
              obtain ⟨⟨g, p⟩, hx'⟩ : ∃ x, ts[j]? = some x := ⟨_, List.getElem?_eq_getElem (by rw [HN.out]; omega)⟩
              obtain ⟨y0, y1⟩ := flat_pv hx'
              obtain ⟨_, e9, j0⟩ := HC.out _ _ y0
              cases e9
              obtain ⟨_, e9, j1⟩ := HC.out _ _ y1
              cases e9
              have hmy := (HT.out.2 g p).1 (List.mem_of_getElem? hx')
              obtain ⟨n1, n2, n3⟩ := H2.out.mx hmy
              have hpp := Bud.pow_pos p
              have hjN : j < N := by omega
              have hjN2 : (j : Int) < (N : Int) := by omega
              have HX3 := Lib.hid hx'
              have HJ := Lib.hid hj2
              have HGB := Lib.hid (show g ≤ 1048576 from by have := H2.out.hi; omega)
              clear hi0 hj2 y0 y1 hx' hmy n2 hpp
              by_cases hpo : p = o
              · have hpo2 : decide (p = o) = true := by simp; exact hpo
                have HPO := Lib.hid hpo
                rw [hpo] at j1
                clear hpo hpo2
                by_cases ho9 : o < 9
                · have r0 : decide ((o : Int) < 9) = true := by simp; omega
                  have r0' : decide (o < 9) = true := by simp; omega
                  have hgb := HGB.out
                  obtain ⟨s', hs', hs2⟩ : ∃ s : Nat, (g : Int) + (t : Int) = (s : Int) ∧ s = g + t := ⟨g + t, by simp, rfl⟩
                  by_cases hf : f = s'
                  · have HF := Lib.hid hf
                    subst hf
                    obtain ⟨t2, ht2', ht3'⟩ : ∃ t2 : Nat, (2 : Int) * (t : Int) = (t2 : Int) ∧ t2 = 2 * t := ⟨2 * t, by simp, rfl⟩
                    obtain ⟨r, hr, hr2⟩ : ∃ r : Nat, (g : Int) % (t2 : Int) = (r : Int) ∧ r = g % t2 := ⟨g % t2, by simp, rfl⟩
                    have hrn : ¬ r = 0 := fun e => by
                      have := HT.out.no_join (g := g) (f := f) (o := o) (by have := List.mem_of_getElem? HX3.out; rw [HPO.out] at this; exact this) (List.mem_of_getElem? HX2.out) ho9 (by rw [← HTP.out]; exact hs2)
                      rw [Bud.pow_succ', ← HTP.out] at this
                      exact this (by rw [show t + t = t2 by omega, ← hr2]; exact e)
                    have r1 : ((r : Int) == 0) = false := by simp; omega
                    have r2 : (r == 0) = false := by simp; omega
                    have ht20 : ¬ t2 = 0 := by omega
                    clear hrn hr2 ht3' hs2
                    go_wp2_with fail
                    go_quiet (fail)
                    go_wp2_with fail
                    exact ⟨⟨i + 1, f + t, by go_num, by go_num, by rw [HSL.out]; go_num, by rw [HN.out]; omega, by omega, fun x hx => by rw [HTP.out]; exact HT.out.next HX2.out hx, q + nq, rfl⟩, by simp [cntI]; omega⟩
                  · have r1 : ((f : Int) == (s' : Int)) = false := by simp; omega
                    have r2 : (f == s') = false := by simp; exact hf
                    clear hf hs2
                    go_wp2_with fail
                    go_quiet (fail)
                    go_wp2_with fail
                    exact ⟨⟨i + 1, f + t, by go_num, by go_num, by rw [HSL.out]; go_num, by rw [HN.out]; omega, by omega, fun x hx => by rw [HTP.out]; exact HT.out.next HX2.out hx, q + nq, rfl⟩, by simp [cntI]; omega⟩
                · have r0 : decide ((o : Int) < 9) = false := by simp; omega
                  have r0' : decide (o < 9) = false := by simp; omega
                  go_wp2_with fail
                  go_quiet (fail)
                  go_wp2_with fail
                  exact ⟨⟨i + 1, f + t, by go_num, by go_num, by rw [HSL.out]; go_num, by rw [HN.out]; omega, by omega, fun x hx => by rw [HTP.out]; exact HT.out.next HX2.out hx, q + nq, rfl⟩, by simp [cntI]; omega⟩
              · have r1 : ((p : Int) == (o : Int)) = false := by simp; omega
                have r2 : (p == o) = false := by simp; exact hpo
                clear hpo
                go_wp2_with fail
                go_quiet (fail)
                go_wp2_with fail
                exact ⟨⟨i + 1, f + t, by go_num, by go_num, by rw [HSL.out]; go_num, by rw [HN.out]; omega, by omega, fun x hx => by rw [HTP.out]; exact HT.out.next HX2.out hx, q + nq, rfl⟩, by simp [cntI]; omega⟩
          · have g0 : decide ((i : Int) < (N : Int)) = false := by simp; omega
            have g0' : decide (i < N) = false := by simp; omega
            have hsm2 : cntS S fi n = sm := by
              rw [← HTK.out, ← HSM.out, List.take_of_length_le (by rw [HN.out]; omega)]
            have C := lfree (H2.out.drewN q)
            rw [hsm2] at C
            clear C
            have HS2 := Lib.hid hsm2
            clear hsm2
            have H3 := Lib.hid (H2.out.drewN q)
            have HB3 := Lib.hid (below_drewN HB2.out q)
            generalize wo.drewN q = w3 at *
            go_wp2_with fail
            refine (told_any _).mono ?_; rintro e w4 ⟨rfl, hb4⟩
            have C := lfree (H3.out.below hb4)
            rw [HS2.out] at C
            have HB4 := Lib.hid (HB3.out.trans (hb4.mono HB3.out.size))
            clear hb4
            go_wp2_with fail
            refine C.mono ?_; rintro e w5 ⟨rfl, rfl⟩
            clear C
            go_wp2
            go_ret
            exact ⟨rfl, HB4.out⟩
end Go.Proofs.Ytmmjkebhcihjlaa
