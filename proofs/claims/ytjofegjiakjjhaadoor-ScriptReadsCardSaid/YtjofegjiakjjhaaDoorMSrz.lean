import Derived.Test.YtjofegjiakjjhaaDoorMSry
import Derived.Test.YtjofegjiakjjhaaDoorMSrg
import Derived.Test.YtjofegjiakjjhaaDoorMShape
import Derived.WalkMore
import Derived.ScopeJumps
import Derived.BigQuiet
/- Script, the program: Parse. -/
namespace Go.Proofs.YtjofegjiakjjhaaDoor
open Go.RowKit Go.Lib Mf

section
open Go
theorem wp_scope_once {P : Program} {a : Act} {w : World} {Q : Exit → Act → World → Prop} {c rest : Code} (l : Nat) (J : Act → World → Prop) (μ : Act → World → Nat) (hf : findLabel c l = some (.seq .skip rest))
    (pass : ∀ a w, J a w → rest.wp P (Exit.jump l (fun a' w' => J a' w' ∧ μ a' w' < μ a w) Q) a w)
    (first : (∀ a w, J a w → rest.wp P (Exit.jump l J Q) a w) → c.wp P (Exit.jump l J Q) a w) : (Code.scope c).wp P Q a w :=
  wp_scope_jumps l J μ hf (first fun a w h => wp_mono (pass a w h) (fun e a' w' h' => by
    cases e <;> first | exact h' | exact ⟨h'.1, h'.2.1⟩)) (fun a w h => wp_seq (wp_skip (pass a w h)))
end
theorem Env.low {w w' : World} {B : Nat} (h : Env w) (hb : Below B w w') (h8 : 8 ≤ B) : Env w' := h.only (only_below (S := fun k => B ≤ k) hb (fun _ _ h => h)) (fun k hk h => by omega)
theorem cutL_count (c : UInt8) : ∀ l : Bs, (cutL c l).length ≤ l.length + 1
  | [] => by rw [cutL]; simp
  | b :: l => by
    have h := cutL_count c l
    rw [cutL]
    split
    · simp only [List.length_cons]; omega
    · cases hc : cutL c l with
      | nil => exact absurd hc (cutL_ne c l)
      | cons y ys => rw [hc] at h; simp only [List.length_cons, List.tail_cons] at h ⊢; omega
/-- What holds at the label: no kind up to k has these words. -/
structure PsW (w w1 : World) (l x0 : Bs) (ws : List Bs) (gw cw nw : Nat) : Prop where
  rb : Blk w1 w.heap.size 25 #[.int .i64 0, .int .i64 0, .int .u64 0, .int .i64 0, .int .u64 0, .int .i64 0, .bool false, .int .i64 0, .int .i64 0, .int .i64 0, .int .i64 0, .slice none 0 0]
  be : Below w.heap.size w w1
  rl : w.heap.size < w1.heap.size
  env : Env w1
  cut : cutL 32 l = x0 :: ws
  c0 : w1.cell? ⟨gw, 0, none⟩ = some (bv x0)
  gl : gw < w1.heap.size
  rd : Reads w1 w1.heap.size 1 (some ⟨gw, 0, none⟩) nw ((x0 :: ws).map bv)
  cc : nw ≤ cw
  cm : cw ≤ maxLen
  nw : (x0 :: ws).length = nw
def PsJ (w : World) (l : Bs) (n : Nat) (a' : Act) (w' : World) : Prop := ∃ (w1 : World) (x0 : Bs) (ws : List Bs) (gw cw nw : Nat) (k : Nat) (u6 u18 u19 u20 u21 u23 u24 u25 u26 u27 u28 u29 u30 u31 u32 u33 u34 u35 u36 u37 u38 u39 u40 : Value), PsW w w1 l x0 ws gw cw nw ∧ a' = { tmps := #[bv l, undef, .pointer (some ⟨w.heap.size, 0, none⟩), .int .i64 0, .slice (some ⟨gw, 0, none⟩) nw cw, .int .i64 k, u6, undef, undef, undef, undef, undef, bv l, .int .i64 n, .bool false, undef, bv l, .slice (some ⟨gw, 0, none⟩) nw cw, u18, u19, u20, u21, undef, u23, u24, u25, u26, u27, u28, u29, u30, u31, u32, u33, u34, u35, u36, u37, u38, u39, u40, undef, undef, undef, undef, undef, undef, undef, undef, undef, undef, undef, undef, undef, undef, undef, undef, undef, undef, undef, undef, undef, undef, undef, undef, undef, undef, undef, undef, undef, undef, undef, undef, undef], defers := [] } ∧ k ≤ 32 ∧ Below w1.heap.size w1 w' ∧ ∀ (j : Nat) (w0 : Bs) (fs : List Fd), 1 ≤ j → j ≤ k → kdT[j]? = some (w0, fs) → ¬ (w0 = x0 ∧ ws.length = fs.length)
/-- The fields read. -/
def PsI (w2 : World) (sb k : Nat) (fs : List Fd) (ws : List Bs) (v46 : Value) (wr : World) : Prop := ∃ (i : Nat) (F : Value) (d : St), v46 = .int .i64 i ∧ i ≤ fs.length ∧ setAllP { kind := k } (fs.take i) (ws.take i) = some d ∧ Blk wr sb 25 (stC d F) ∧ BRow wr (sb + 1) F d.fails ∧ d.ok ∧ d.fails.length ≤ i * 2000 ∧ ((∃ j, j < i ∧ fs[j]? = some .f) ∨ (F = .slice none 0 0 ∧ d.fails = [])) ∧ ((∃ j, j < i ∧ fs[j]? = some .l) ∨ d.what = 0) ∧ Below sb w2 wr
set_option maxRecDepth 20000 in
set_option maxHeartbeats 8000000 in
theorem lparse (l : Bs) (hl0 : l.length ≤ 1000000) {w : World} (he : Env w) : Calls Tryd.prog 13 #[bv l] w (PrsIs l w) := by
  obtain ⟨n, hn⟩ : ∃ n, l.length = n := ⟨_, rfl⟩
  obtain ⟨i0, hi0, hz0', hz1, hz2⟩ := info_parts infoS
  have HB0 := Lib.hid ((Below.refl w.heap.size w).alloc (Nat.le_refl _) (.cells #[.int .i64 0, .int .i64 0, .int .u64 0, .int .i64 0, .int .u64 0, .int .i64 0, .bool false, .int .i64 0, .int .i64 0, .int .i64 0, .int .i64 0, .slice none 0 0] 25))
  by_cases hbig : 1100 < n
  · have g1 : decide ((n : Int) > 1100) = true := decide_eq_true (by omega)
    have g1' : decide (1100 < n) = true := decide_eq_true hbig
    go_enter Tryd.func13, Tryd.ntmps13
    go_wp2_with fail
    refine wp_scope_jumps 0 (fun _ _ => False) (fun _ _ => 0) rfl ?_ (fun _ _ h => h.elim)
    go_wp2
    simp only [Exit.jump]
    refine bodyPost_ret (results_cell_row_tmp rfl _ _ w.heap.size 25 _ (0, 0) _ rfl (heap_alloc_new w _) Tryd.underlying25 rfl (by kernel_rfl)) rfl ?_
    exact ⟨{}, .slice none 0 0, 2, rfl, .long (by omega), St.ok0 0 ⟨by decide, by decide⟩, World.ownsRow_nil _ _ _ _, by simp, HB0.out⟩
  · have g1 : decide ((n : Int) > 1100) = false := decide_eq_false (by omega)
    have g1' : decide (1100 < n) = false := decide_eq_false hbig
    have HLS := Lib.hid (show l.length ≤ 1100 by omega)
    have HZ := Lib.hid he.size
    have HSP := Lib.hid (lsplit 32 l (by omega) (he.below HB0.out))
    have HE := Lib.hid (he.below HB0.out)
    clear he
    go_enter Tryd.func13, Tryd.ntmps13
    go_wp2_with fail
    refine wp_scope_once 0 (PsJ w l n) (fun a' _ => 33 - cntZ (a'.tmps.getD 5 undef)) rfl ?_ (fun hpass => ?_)
    · rintro a' wr ⟨w1, x0, ws, gw, cw, nw, k, u6, u18, u19, u20, u21, u23, u24, u25, u26, u27, u28, u29, u30, u31, u32, u33, u34, u35, u36, u37, u38, u39, u40, hW, rfl, hk32, hbe, hno⟩
      have HPW := Lib.hid hW
      have HBE := Lib.hid hbe
      have HNP := Lib.hid hno
      clear hW hbe hno HSP HE HB0
      obtain ⟨k1, hk1⟩ : ∃ k1 : Nat, k + 1 = k1 := ⟨_, rfl⟩
      have hwr : IntKind.i64.wrap ((k : Int) + 1) = (k1 : Int) := by rw [IntWalk.i64_in _ (by omega)]; omega
      obtain ⟨mw, hmw⟩ : ∃ mw, nw = mw + 1 := ⟨ws.length, by have := HPW.out.nw; rw [List.length_cons] at this; omega⟩
      have HMW := Lib.hid hmw
      have HWL := Lib.hid (show ws.length = mw from by have := HPW.out.nw; rw [List.length_cons] at this; omega)
      have hnwb : nw ≤ 1101 := by
        have h1 := cutL_count 32 l
        have h2 := HPW.out.nw
        rw [HPW.out.cut, h2] at h1
        have := HLS.out
        omega
      have hpos : 0 < nw := by omega
      have hwr3 : IntKind.i64.wrap ((nw : Int) - 1) = (mw : Int) := by rw [IntWalk.i64_in _ (by omega)]; omega
      clear hmw
      by_cases hk : k1 ≤ 32
      · have g2 : decide ((k1 : Int) > 32) = false := decide_eq_false (by omega)
        have g2' : decide (32 < k1) = false := decide_eq_false (by omega)
        obtain ⟨w0s, fs, hkd, _, _, hwl, hfl⟩ := kd_at (show 1 ≤ k1 by omega) hk
        have HIX := Lib.hid (fun w => (lkix (show 1 ≤ k1 by omega) hk hkd w))
        have HKD := Lib.hid hkd
        obtain ⟨f, hf9⟩ : ∃ f, fs.map pcd = f := ⟨_, rfl⟩
        rw [hf9] at HIX
        have hix := HIX.out
        have hfm5 : f.length = fs.length := by rw [← hf9, List.length_map]
        obtain ⟨m, hm⟩ : ∃ m, fs.length = m := ⟨_, rfl⟩
        have HM := Lib.hid hm
        rw [hm] at hfl hfm5
        have HFG := Lib.hid (fun i c (h : fs[i]? = some c) (hi : i < f.length) => (show f[i] = pcd c from by
          have : f[i]? = some (pcd c) := by rw [← hf9, List.getElem?_map, h]; rfl
          rw [List.getElem?_eq_getElem hi] at this
          exact Option.some.inj this))
        clear hkd hm hf9 HIX
        go_wp2_with fail
        refine (lkinds _).mono ?_; rintro e w2 ⟨rfl, hb⟩
        replace HBE := Lib.hid (HBE.out.trans (hb.mono HBE.out.size))
        clear hb
        go_upto_region 9 with fail
        have hbx := (Below.refl w2.heap.size w2).alloc (Nat.le_refl _) (.cells #[bv w0s, bv f] 62)
        have HK := Lib.hid (show Blk (w2.alloc (.cells #[bv w0s, bv f] 62)) w2.heap.size 62 #[bv w0s, bv f] from Blk.new _ _ _)
        replace HBE := Lib.hid (HBE.out.trans (hbx.mono HBE.out.size))
        clear hbx hix
        generalize w2.alloc (.cells #[bv w0s, bv f] 62) = w3 at *
        generalize w2.heap.size = kb at *
        have hk0 := (HK.out.cell 0).trans rfl
        have hk1c := (HK.out.cell 1).trans rfl
        have hc0 := (HBE.out.cell HPW.out.gl).trans HPW.out.c0
        by_cases hx0 : w0s = x0
        · have qx : (w0s == x0) = true := beq_iff_eq.2 hx0
          by_cases hlen : m = mw
          · have ql : ((m : Int) == (mw : Int)) = true := beq_iff_eq.2 (by omega)
            have ql' : ((m : Int) != (mw : Int)) = false := bne_eq_false_iff_eq.2 (by omega)
            have HX0 := Lib.hid hx0
            have HLN := Lib.hid hlen
            clear hx0 hlen
            go_quiet (fail)
            replace HBE := Lib.hid (below_drewN HBE.out nq)
            replace HK := Lib.hid (HK.out.drewN nq)
            clear hk0 hk1c hc0
            generalize w3.drewN nq = w4 at *
            go_upto_region 11 with fail
            have hbx := (Below.refl w4.heap.size w4).alloc (Nat.le_refl _) (.cells #[.int .i64 k1, .int .i64 0, .int .u64 0, .int .i64 0, .int .u64 0, .int .i64 0, .bool false, .int .i64 0, .int .i64 0, .int .i64 0, .int .i64 0, .slice none 0 0] 25)
            have HS := Lib.hid (show Blk (w4.alloc (.cells #[.int .i64 k1, .int .i64 0, .int .u64 0, .int .i64 0, .int .u64 0, .int .i64 0, .bool false, .int .i64 0, .int .i64 0, .int .i64 0, .int .i64 0, .slice none 0 0] 25)) w4.heap.size 25 (stC ({ kind := k1 } : St) (.slice none 0 0)) from Blk.new _ _ _)
            have HKS := Lib.hid (show kb < w4.heap.size from HK.out.lt)
            have HRS := Lib.hid (show w1.heap.size ≤ w4.heap.size from HBE.out.size)
            replace HK := Lib.hid (HK.out.alloc (.cells #[.int .i64 k1, .int .i64 0, .int .u64 0, .int .i64 0, .int .u64 0, .int .i64 0, .bool false, .int .i64 0, .int .i64 0, .int .i64 0, .int .i64 0, .slice none 0 0] 25))
            replace HBE := Lib.hid (HBE.out.trans (hbx.mono HBE.out.size))
            have HE5 := Lib.hid (HPW.out.env.below HBE.out)
            clear hbx
            generalize w4.alloc (.cells #[.int .i64 k1, .int .i64 0, .int .u64 0, .int .i64 0, .int .u64 0, .int .i64 0, .bool false, .int .i64 0, .int .i64 0, .int .i64 0, .int .i64 0, .slice none 0 0] 25) = w5 at *
            generalize w4.heap.size = sb at *
            obtain ⟨A9, hA9⟩ : ∃ A9, (if cw = 1 then some ⟨gw, 0, none⟩ else (some (⟨gw, 0, none⟩ : Addr)).map (·.add (1 * 1))) = A9 := ⟨_, rfl⟩
            have HRD := Lib.hid (show Reads w1 w1.heap.size 1 A9 m (ws.map bv) from by
              have h9 := HPW.out.rd.cut (k := 1) (cap := cw) hpos HPW.out.cc
              rw [hA9, show nw - 1 = m from by have := HMW.out; have := HLN.out; omega] at h9
              exact h9)
            have hs2 : ∀ w' : World, (Instr.slice 36 (.slice (some ⟨gw, 0, none⟩) nw cw) (some (.int .i64 1)) none none).run Tryd.prog w' = .ok (.slice A9 m (cw - 1)) w' := fun w' => by
              rw [← hA9, show m = nw - 1 from by have := HMW.out; have := HLN.out; omega]
              exact run_cut_hi w' Tryd.underlying36 hi0 1 hz1 (some ⟨gw, 0, none⟩) nw cw 1 hpos
            have HWF := Lib.hid (show ws.length = m from by have := HWL.out; have := HLN.out; omega)
            clear hA9 hwr3 ql ql' qx hpos hnwb
            go_wp2_with fail
            clear hs2
            go_loopw [46] (PsI w5 sb k1 fs ws) (fun v _ => m - cntZ v)
            case atStart => exact ⟨0, .slice none 0 0, { kind := k1 }, rfl, Nat.zero_le _, by rw [List.take_zero, List.take_zero]; rfl, HS.out, World.ownsRow_nil _ _ _ _, St.ok0 k1 ⟨by omega, by omega⟩, by simp, .inr ⟨rfl, rfl⟩, .inr rfl, Below.refl _ _⟩
            case round =>
              clear HS
              obtain ⟨i, F, d, rfl, hi, hd, hS, hW, hok, hfl9, hF, hL, hbe⟩ := hrel
              have HS := Lib.hid hS
              have HW := Lib.hid hW
              have HD := Lib.hid hd
              have HOK := Lib.hid hok
              have HF := Lib.hid hF
              have HL := Lib.hid hL
              have HBI := Lib.hid hbe
              have HFL := Lib.hid hfl9
              have him : i ≤ m := by rw [← HM.out]; exact hi
              have HEI := Lib.hid (HE5.out.low hbe (by have := HRS.out; have := HPW.out.env.size; omega))
              have HRW := Lib.hid (HPW.out.rb.below (HBE.out.trans (hbe.mono HRS.out)) HPW.out.rl)
              have HBW := Lib.hid (HPW.out.be.trans ((HBE.out.trans (hbe.mono HRS.out)).mono HPW.out.be.size))
              clear hS hW hd hok hF hL hbe hi hfl9
              obtain ⟨FA, Fc, rfl⟩ := HW.out.form
              by_cases hin : i < m
              · have g3 : decide ((i : Int) < (m : Int)) = true := by simp; exact hin
                have g3' : decide (i < m) = true := by simp; exact hin
                obtain ⟨c, hc⟩ : ∃ c, fs[i]? = some c := ⟨_, List.getElem?_eq_getElem (by rw [HM.out]; exact hin)⟩
                obtain ⟨x, hx⟩ : ∃ x, ws[i]? = some x := ⟨_, List.getElem?_eq_getElem (by rw [HWF.out]; exact hin)⟩
                have HC := Lib.hid hc
                have HX := Lib.hid hx
                have HXL := Lib.hid (show x.length ≤ 1100 from by
                  have := cutL_len 32 l x (by rw [HPW.out.cut]; exact List.mem_cons_of_mem _ (List.mem_of_getElem? hx))
                  have := HLS.out
                  omega)
                have hsz : i < (⟨f.toArray⟩ : ByteArray).size := (show i < f.length by omega)
                have HXB := Lib.hid (show (⟨f.toArray⟩ : ByteArray)[i]'hsz = pcd c from HFG.out i c hc (by omega))
                obtain ⟨ad, u, hA, _, hu, hcx⟩ := (HRD.out.below (HBE.out.trans (HBI.out.mono HRS.out))).at_ hin
                rw [List.getElem?_map, hx] at hu
                obtain rfl : bv x = u := by simpa using hu
                subst hA
                have hk1c := ((HK.out.below HBI.out HKS.out).cell 1).trans rfl
                have HFX := Lib.hid (show c = .f → Value.slice FA d.fails.length Fc = .slice none 0 0 ∧ d.fails = [] from fun e => by
                  rcases HF.out with ⟨j, hj, e9⟩ | h
                  · have := kd_once HKD.out e9 (by rw [HC.out, e]); omega
                  · exact h)
                have HLX := Lib.hid (show c = .l → d.what = 0 from fun e => by
                  rcases HL.out with ⟨j, hj, e9⟩ | h
                  · have := kd_once HKD.out e9 (by rw [HC.out, e]); omega
                  · exact h)
                clear hc hx hu
                go_wp2_with fail
                rw [HXB.out]
                refine (lget d c _ x (by have := HXL.out; omega) sb HEI.out HS.out HW.out HFX.out HLX.out).mono ?_; rintro e wn ⟨F', ok, d', hF', rfl, hr, hS2, hW2, hb⟩
                have HR := Lib.hid hr
                have HF' := Lib.hid hF'
                have HS2 := Lib.hid hS2
                have HW2 := Lib.hid hW2
                have HBN := Lib.hid hb
                clear hr hF' hS2 hW2 hb hk1c hcx
                cases ok with
                | false =>
                  have HNO := Lib.hid (cand_none HKD.out (by rw [HX0.out]; exact HPW.out.cut) (setAllP_stop _ _ _ _ _ _ _ HC.out HX.out HD.out HR.out))
                  replace HBW := Lib.hid (HBW.out.trans (HBN.out.mono (Nat.le_trans (Nat.le_of_lt HPW.out.rl) HRS.out)))
                  have HR9 := Lib.hid (HRW.out.below HBN.out (Nat.lt_of_lt_of_le HPW.out.rl HRS.out))
                  go_upto_region 15 with fail
                  rename_i hK
                  apply wp_region_lit
                  refine wlV1 (v := .agg #[.int .i64 0, .int .i64 0, .int .u64 0, .int .i64 0, .int .u64 0, .int .i64 0, .bool false, .int .i64 0, .int .i64 0, .int .i64 0, .int .i64 0, .slice none 0 0]) (by kernel_rfl) (by kernel_rfl) ?_
                  (try simp only [Act.put, List.setIfInBounds_toArray, List.set_cons_zero, List.set_cons_succ])
                  refine wpList_store_rowTo rfl 25 _ _ rfl rfl w.heap.size _ rfl rfl 25 _ HR9.out (by kernel_rfl) (by kernel_rfl) (by kernel_rfl) ?_
                  refine wlV1 (v := .int .i64 4) (by kernel_rfl) (by kernel_rfl) ?_
                  (try simp only [Act.put, List.setIfInBounds_toArray, List.set_cons_zero, List.set_cons_succ])
                  refine wpList_nil ?_
                  refine hK _ _ ?_
                  apply wp_ret
                  refine bodyPost_ret (results_cell_row_tmp rfl _ _ w.heap.size 25 _ (0, 0) _ rfl (setRow_heap _ w.heap.size _ _ 25 (0, 0) HR9.out) Tryd.underlying25 rfl (by kernel_rfl)) rfl ?_
                  exact ⟨{}, .slice none 0 0, 4, rfl, .none HLS.out HNO.out, St.ok0 0 ⟨by decide, by decide⟩, World.ownsRow_nil _ _ _ _, by simp, below_setRow HBW.out (Nat.le_refl _) _⟩
                | true =>
                  go_wp2
                  go_roundw
                  case rel =>
                    have hmo := setP_more HR.out
                    refine ⟨i + 1, F', d', by go_num, by rw [HM.out]; omega, (setAllP_snoc _ _ _ _ _ _ _ HC.out HX.out HD.out).trans HR.out, HS2.out, HW2.out, setP_ok HOK.out HR.out, ?_, ?_, ?_, HBI.out.trans HBN.out⟩
                    · have := HXL.out
                      have := HFL.out
                      have := hmo.2.1
                      omega
                    · by_cases hcf : c = .f
                      · exact .inl ⟨i, Nat.lt_succ_self i, by rw [HC.out, hcf]⟩
                      · rcases HF.out with ⟨j, hj, e9⟩ | ⟨h1, h2⟩
                        · exact .inl ⟨j, by omega, e9⟩
                        · exact .inr ⟨(HF'.out hcf).trans h1, (hmo.2.2.1 hcf).trans h2⟩
                    · by_cases hcf : c = .l
                      · exact .inl ⟨i, Nat.lt_succ_self i, by rw [HC.out, hcf]⟩
                      · rcases HL.out with ⟨j, hj, e9⟩ | h1
                        · exact .inl ⟨j, by omega, e9⟩
                        · exact .inr ((hmo.2.2.2 hcf).trans h1)
                  case measure => exact cntZ_lt hin
              · obtain rfl : i = m := by omega
                have g3 : decide ((i : Int) < (i : Int)) = false := by simp
                have HDA := Lib.hid (show setAllP { kind := k1 } fs ws = some d from by
                  have h8 := HD.out
                  rw [List.take_of_length_le (by rw [HM.out]; exact Nat.le_refl _), List.take_of_length_le (by rw [HWF.out]; exact Nat.le_refl _)] at h8
                  exact h8)
                have cs1 := stC_cells HS.out
                obtain ⟨t, ec, hte⟩ : ∃ t e, TextS d = (t, e) := ⟨_, _, rfl⟩
                have HTE := Lib.hid hte
                have hfl6 : d.fails.length ≤ 10000 := by have := HFL.out; omega
                clear hte
                go_wp2_with fail
                refine (ltext d HOK.out _ HEI.out ⟨FA, Fc, rfl, Reads.of_own HW.out⟩ (by omega)).mono ?_; rintro e wt ⟨rfl, hb⟩
                rw [HTE.out]
                dsimp only
                replace HBW := Lib.hid (HBW.out.trans (hb.mono HBW.out.size))
                have HR9 := Lib.hid (HRW.out.below hb HRW.out.lt)
                replace HS := Lib.hid (HS.out.below hb HS.out.lt)
                replace HW := Lib.hid (own_below HW.out hb)
                clear hb cs1
                by_cases hec : ec = 0
                · have q0 : (ec == 0) = true := beq_iff_eq.2 hec
                  have q0' : (ec != 0) = false := bne_eq_false_iff_eq.2 hec
                  by_cases htl : t = l
                  · have q1 : (t == l) = true := beq_iff_eq.2 htl
                    have q1' : (t != l) = false := bne_eq_false_iff_eq.2 htl
                    have HIT := Lib.hid (textS_ok (by rw [HTE.out, hec, htl]))
                    clear hec htl
                    go_upto_region 20 with fail
                    rename_i hK
                    apply wp_region_lit
                    refine wpList_load_row rfl 25 _ rfl sb rfl 25 _ (0, 0) _ HS.out Tryd.underlying25 rfl (by kernel_rfl) ?_
                    (try simp only [Act.put, List.setIfInBounds_toArray, List.set_cons_zero, List.set_cons_succ])
                    refine wpList_store_rowTo rfl 25 _ _ rfl rfl w.heap.size _ rfl rfl 25 _ HR9.out (by kernel_rfl) (by kernel_rfl) (by kernel_rfl) ?_
                    refine wlV1 (v := .int .i64 0) (by kernel_rfl) (by kernel_rfl) ?_
                    (try simp only [Act.put, List.setIfInBounds_toArray, List.set_cons_zero, List.set_cons_succ])
                    refine wpList_nil ?_
                    refine hK _ _ ?_
                    apply wp_ret
                    refine bodyPost_ret (results_cell_row_tmp rfl _ _ w.heap.size 25 _ (0, 0) _ rfl (setRow_heap _ w.heap.size _ _ 25 (0, 0) HR9.out) Tryd.underlying25 rfl (by kernel_rfl)) rfl ?_
                    refine ⟨d, .slice FA d.fails.length Fc, 0, rfl, .is HLS.out HOK.out.towf HIT.out, HOK.out, ?_, by omega, below_setRow HBW.out (Nat.le_refl _) _⟩
                    have ho8 : Only (fun g => g = w.heap.size) wt (wt.setRow w.heap.size (stC d (.slice FA d.fails.length Fc))) := ⟨rfl, rfl, rfl, by simp, fun k hk hn9 => setRow_other wt w.heap.size k _ hn9⟩
                    exact ownsRow_mono (own_only HW.out ho8 (fun k hk => by have := HPW.out.rl; have := HRS.out; omega)) (by have := HPW.out.rl; have := HRS.out; omega)
                  · have q1 : (t == l) = false := beq_eq_false_iff_ne.2 htl
                    have q1' : (t != l) = true := bne_iff_ne.2 htl
                    have HNO := Lib.hid (cand_only HKD.out (by rw [HX0.out]; exact HPW.out.cut) HDA.out (fun h => htl (by have := textS_of h; rw [HTE.out] at this; injection this)))
                    clear hec htl
                    go_upto_region 19 with fail
                    rename_i hK
                    apply wp_region_lit
                    refine wlV1 (v := .agg #[.int .i64 0, .int .i64 0, .int .u64 0, .int .i64 0, .int .u64 0, .int .i64 0, .bool false, .int .i64 0, .int .i64 0, .int .i64 0, .int .i64 0, .slice none 0 0]) (by kernel_rfl) (by kernel_rfl) ?_
                    (try simp only [Act.put, List.setIfInBounds_toArray, List.set_cons_zero, List.set_cons_succ])
                    refine wpList_store_rowTo rfl 25 _ _ rfl rfl w.heap.size _ rfl rfl 25 _ HR9.out (by kernel_rfl) (by kernel_rfl) (by kernel_rfl) ?_
                    refine wlV1 (v := .int .i64 4) (by kernel_rfl) (by kernel_rfl) ?_
                    (try simp only [Act.put, List.setIfInBounds_toArray, List.set_cons_zero, List.set_cons_succ])
                    refine wpList_nil ?_
                    refine hK _ _ ?_
                    apply wp_ret
                    refine bodyPost_ret (results_cell_row_tmp rfl _ _ w.heap.size 25 _ (0, 0) _ rfl (setRow_heap _ w.heap.size _ _ 25 (0, 0) HR9.out) Tryd.underlying25 rfl (by kernel_rfl)) rfl ?_
                    exact ⟨{}, .slice none 0 0, 4, rfl, .none HLS.out HNO.out, St.ok0 0 ⟨by decide, by decide⟩, World.ownsRow_nil _ _ _ _, by simp, below_setRow HBW.out (Nat.le_refl _) _⟩
                · have q0 : (ec == 0) = false := beq_eq_false_iff_ne.2 hec
                  have q0' : (ec != 0) = true := bne_iff_ne.2 hec
                  have HNO := Lib.hid (cand_only HKD.out (by rw [HX0.out]; exact HPW.out.cut) HDA.out (fun h => hec (by have := textS_of h; rw [HTE.out] at this; injection this)))
                  clear hec
                  go_upto_region 19 with fail
                  rename_i hK
                  apply wp_region_lit
                  refine wlV1 (v := .agg #[.int .i64 0, .int .i64 0, .int .u64 0, .int .i64 0, .int .u64 0, .int .i64 0, .bool false, .int .i64 0, .int .i64 0, .int .i64 0, .int .i64 0, .slice none 0 0]) (by kernel_rfl) (by kernel_rfl) ?_
                  (try simp only [Act.put, List.setIfInBounds_toArray, List.set_cons_zero, List.set_cons_succ])
                  refine wpList_store_rowTo rfl 25 _ _ rfl rfl w.heap.size _ rfl rfl 25 _ HR9.out (by kernel_rfl) (by kernel_rfl) (by kernel_rfl) ?_
                  refine wlV1 (v := .int .i64 4) (by kernel_rfl) (by kernel_rfl) ?_
                  (try simp only [Act.put, List.setIfInBounds_toArray, List.set_cons_zero, List.set_cons_succ])
                  refine wpList_nil ?_
                  refine hK _ _ ?_
                  apply wp_ret
                  refine bodyPost_ret (results_cell_row_tmp rfl _ _ w.heap.size 25 _ (0, 0) _ rfl (setRow_heap _ w.heap.size _ _ 25 (0, 0) HR9.out) Tryd.underlying25 rfl (by kernel_rfl)) rfl ?_
                  exact ⟨{}, .slice none 0 0, 4, rfl, .none HLS.out HNO.out, St.ok0 0 ⟨by decide, by decide⟩, World.ownsRow_nil _ _ _ _, by simp, below_setRow HBW.out (Nat.le_refl _) _⟩
          · have ql : ((m : Int) == (mw : Int)) = false := beq_eq_false_iff_ne.2 (by omega)
            have HNK := Lib.hid (show ¬ (w0s = x0 ∧ ws.length = fs.length) from fun h => hlen (by have := HWL.out; have := HM.out; omega))
            clear hx0 hlen
            go_quiet (fail)
            replace HBE := Lib.hid (below_drewN HBE.out nq)
            go_wp2
            go_step3
            exact ⟨rfl, ⟨w1, x0, ws, gw, cw, nw, k1, _, _, _, _, _, _, _, _, _, _, _, _, _, _, _, _, _, _, _, _, _, _, _, HPW.out, rfl, by omega, HBE.out, fun j v0 gs h1 h2 h3 h4 => by
              by_cases e : j = k1
              · subst e
                rw [HKD.out] at h3
                injection h3 with h3
                injection h3 with e1 e2
                subst e1 e2
                exact HNK.out h4
              · exact HNP.out j v0 gs h1 (by omega) h3 h4⟩, by simp [cntZ]; omega⟩
        · have qx : (w0s == x0) = false := beq_eq_false_iff_ne.2 hx0
          have HNK := Lib.hid (show ¬ (w0s = x0 ∧ ws.length = fs.length) from fun h => hx0 h.1)
          clear hx0
          go_quiet (fail)
          replace HBE := Lib.hid (below_drewN HBE.out nq)
          go_wp2
          go_step3
          exact ⟨rfl, ⟨w1, x0, ws, gw, cw, nw, k1, _, _, _, _, _, _, _, _, _, _, _, _, _, _, _, _, _, _, _, _, _, _, _, HPW.out, rfl, by omega, HBE.out, fun j v0 gs h1 h2 h3 h4 => by
            by_cases e : j = k1
            · subst e
              rw [HKD.out] at h3
              injection h3 with h3
              injection h3 with e1 e2
              subst e1 e2
              exact HNK.out h4
            · exact HNP.out j v0 gs h1 (by omega) h3 h4⟩, by simp [cntZ]; omega⟩
      · have g2 : decide ((k1 : Int) > 32) = true := decide_eq_true (by omega)
        have g2' : decide (32 < k1) = true := decide_eq_true (by omega)
        have HNO := Lib.hid (cand_no HPW.out.cut fun j v0 gs h1 h2 h3 => HNP.out j v0 gs h1 (by omega) h3)
        have HR9 := Lib.hid (HPW.out.rb.below HBE.out HPW.out.rl)
        have HBW := Lib.hid (HPW.out.be.trans (HBE.out.mono HPW.out.be.size))
        go_upto_region 7 with fail
        rename_i hK
        apply wp_region_lit
        refine wlV1 (v := .agg #[.int .i64 0, .int .i64 0, .int .u64 0, .int .i64 0, .int .u64 0, .int .i64 0, .bool false, .int .i64 0, .int .i64 0, .int .i64 0, .int .i64 0, .slice none 0 0]) (by kernel_rfl) (by kernel_rfl) ?_
        (try simp only [Act.put, List.setIfInBounds_toArray, List.set_cons_zero, List.set_cons_succ])
        refine wpList_store_rowTo rfl 25 _ _ rfl rfl w.heap.size _ rfl rfl 25 _ HR9.out (by kernel_rfl) (by kernel_rfl) (by kernel_rfl) ?_
        refine wlV1 (v := .int .i64 4) (by kernel_rfl) (by kernel_rfl) ?_
        (try simp only [Act.put, List.setIfInBounds_toArray, List.set_cons_zero, List.set_cons_succ])
        refine wpList_nil ?_
        refine hK _ _ ?_
        apply wp_ret
        refine bodyPost_ret (results_cell_row_tmp rfl _ _ w.heap.size 25 _ (0, 0) _ rfl (setRow_heap _ w.heap.size _ _ 25 (0, 0) HR9.out) Tryd.underlying25 rfl (by kernel_rfl)) rfl ?_
        exact ⟨{}, .slice none 0 0, 4, rfl, .none HLS.out HNO.out, St.ok0 0 ⟨by decide, by decide⟩, World.ownsRow_nil _ _ _ _, by simp, below_setRow HBW.out (Nat.le_refl _) _⟩
    · have HJ := Lib.hid hpass
      clear hpass
      go_wp2_with fail
      refine HSP.out.mono ?_; rintro e w1 ⟨v4, rfl, hW, hb⟩
      have hrb := (Blk.new w 25 #[.int .i64 0, .int .i64 0, .int .u64 0, .int .i64 0, .int .u64 0, .int .i64 0, .bool false, .int .i64 0, .int .i64 0, .int .i64 0, .int .i64 0, .slice none 0 0]).below hb (by simp)
      have hb1 := HB0.out.trans (hb.mono (by simp))
      have hrl : w.heap.size < w1.heap.size := by have := hb.size; simp at this; omega
      have hev := HE.out.below hb
      clear hb HB0 HSP HE
      obtain ⟨x0, ws, hws⟩ : ∃ x ws, cutL 32 l = x :: ws := by
        cases h : cutL 32 l with
        | nil => exact absurd h (cutL_ne 32 l)
        | cons x ws => exact ⟨x, ws, rfl⟩
      rw [hws] at hW
      rcases own_cases hW with ⟨_, h0⟩ | ⟨gw, cw, rfl, _, hgw, hcc, hcm, hcw⟩
      · simp at h0
      have HPW := Lib.hid (show PsW w w1 l x0 ws gw cw (x0 :: ws).length from ⟨hrb, hb1, hrl, hev, hws, by rw [hcw 0 (by simp)]; rfl, hgw, Reads.of_own hW, hcc, hcm, rfl⟩)
      clear hW hws hcw hgw hcc hcm hrb hb1 hrl hev
      go_wp2_with fail
      go_step3
      rename_i hk
      refine hk _ _ (HJ.out _ _ ?_)
      exact ⟨w1, x0, ws, gw, cw, _, 0, _, _, _, _, _, _, _, _, _, _, _, _, _, _, _, _, _, _, _, _, _, _, _, HPW.out, rfl, by omega, Below.refl _ _, fun j w0 fs h1 h2 => by omega⟩
end Go.Proofs.YtjofegjiakjjhaaDoor
