/- The walk of the statement BuddyBack: it returns true. -/
import Derived.Test.YtmmjkebhcihjlaaBui
namespace Go.Proofs.Ytmmjkebhcihjlaa
open Go.RowKit

/-- The takes. -/
def TkR (w : World) (c fi n : Nat) (vw : Value) (L0 : List (Nat × Nat)) (vt vi : Value) (wr : World) : Prop := ∃ (i : Nat) (S : Nat → Bool) (B : Nat → Prop) (T : List (Nat × Nat)), vi = .int .i64 i ∧ i ≤ 40 ∧ T.length ≤ i ∧ Bk w wr c fi n S B vw L0 vt T ∧ Tk fi n S T
/-- The gives. -/
def GvnR (w : World) (c fi n : Nat) (vw : Value) (L0 : List (Nat × Nat)) (vt : Value) (T : List (Nat × Nat)) (cc : Nat) (vi : Value) (wr : World) : Prop := ∃ (i : Nat) (S : Nat → Bool) (B : Nat → Prop), vi = .int .i64 i ∧ i ≤ T.length ∧ Bk w wr c fi n S B vw L0 vt T ∧ Gvn fi n S T fun j => ∃ i', i' < i ∧ prm T.length cc i' = j
/-- What has been given of a run: s frames a piece, j pieces of C. -/
def pLo (md : Bool) (f s C j : Nat) : Nat := if md then f + (C - j) * s else f
def pHi (md : Bool) (f s C j : Nat) : Nat := if md then f + C * s else f + j * s
/-- The pieces. -/
def PcR (w : World) (c fi n : Nat) (vw : Value) (L0 : List (Nat × Nat)) (vt : Value) (T : List (Nat × Nat)) (S : Nat → Bool) (md : Bool) (f s C : Nat) (vj : Value) (wr : World) : Prop := ∃ (j : Nat) (S' : Nat → Bool) (B : Nat → Prop), vj = .int .i64 j ∧ j ≤ C ∧ Bk w wr c fi n S' B vw L0 vt T ∧ ∀ k, S' k = true ↔ S k = true ∨ (pLo md f s C j ≤ k ∧ k < pHi md f s C j)

theorem own_prs {w : World} {base n : Nat} {e : TypeId} {A : Option Addr} {m cc : Nat} {ts : List (Nat × Nat)} (h : w.ownsRow base e 2 (.slice A m cc) n (ts.flatMap pv)) : Prs w A ts := by
  obtain ⟨A', cc', e, h'⟩ := own_sl h
  injection e with e1 e2 e3
  subst e1
  exact h'

theorem Gvn.congr {fi n : Nat} {S : Nat → Bool} {T : List (Nat × Nat)} {D D' : Nat → Prop} (h : Gvn fi n S T D) (hD : ∀ j, D j ↔ D' j) : Gvn fi n S T D' := fun k => by
  rw [h k]
  exact ⟨fun ⟨a, b⟩ => ⟨a, fun j x h1 h2 => (hD j).1 (b j x h1 h2)⟩, fun ⟨a, b⟩ => ⟨a, fun j x h1 h2 => (hD j).2 (b j x h1 h2)⟩⟩

def CtP (w : World) (o : Nat) (v : Value) (wr : World) : Prop := ∃ ct : Nat, v = .int .i64 ct ∧ ct ≤ o ∧ wr = w

set_option maxRecDepth 100000 in
set_option maxHeartbeats 8000000 in
theorem buddyBack_walk (A0 A1 A3 A4 : Int) (A : Option Addr) (m c : Nat) (xs : List Value) (w : World) (hr : Reads w w.heap.size 1 A m xs) (hx : ∀ u ∈ xs, ∃ i, u = .int .i64 i ∧ (Lit.int .i64 i).wf = true) :
    Calls Try.prog 5 #[.int .i64 A0, .int .i64 A1, .slice A m c, .int .i64 A3, .int .i64 A4] w fun e w' => e = .returned (.bool true) ∧ Below w.heap.size w w' := by
  have HR := Lib.hid hr
  have HX := Lib.hid hx
  obtain ⟨fi, z, y, n, hm1, hfi, hm2, hz, hm3, hm4, hn1, hn2⟩ := args_of A0 A1
  obtain ⟨i0, hi0, hz0', hz1, hz2⟩ := info_parts infoR
  clear hr hx
  go_enter Try.func5, Try.ntmps5
  go_wp2_with fail
  refine (lnew_ok fi n _ (by omega) (by omega)).mono ?_; rintro e w1 ⟨rfl, ⟨B1, h1⟩, hb1⟩
  have H1 := Lib.hid h1
  have HB1 := Lib.hid hb1
  clear h1 hb1 hm1 hm2 hm3 hm4
  go_wp2_with fail
  refine (lruns H1.out).mono ?_; rintro e w2 ⟨vw, L0, rfl, hts, hown, hb⟩
  have HL0 := Lib.hid hts
  have HK2 := Lib.hid (show Bk w w2 w.heap.size fi n (seg fi n) B1 vw L0 (.slice none 0 0) [] from ⟨H1.out.below hb, ownsRow_mono hown HB1.out.size, World.ownsRow_nil _ _ _ _, fun g hg hB => by have := (H1.out.lt hB).2; have := (hown.lt g hg).1; omega, fun g hg => (by cases hg), fun g _ e => (by cases e), HB1.out.trans (hb.mono HB1.out.size)⟩)
  clear hts hown hb H1 HB1
  go_wp2_with fail
  go_loopw [14, 15] (TkR w w.heap.size fi n vw L0) (fun _ v _ => 40 - cntI v)
  case atStart => exact ⟨0, _, _, [], rfl, by omega, Nat.le_refl _, HK2.out, Tk.nil fi n⟩
  case round =>
    clear HK2
    obtain ⟨i, S, B, T, rfl, hi, hTl, hbk, htk⟩ := hrel
    have HK := Lib.hid hbk
    have HTK := Lib.hid htk
    clear hbk htk
    by_cases hlt : i < m ∧ i < 40
    · obtain ⟨l1, l2⟩ := hlt
      obtain ⟨ad, u, rfl, hadb, hxu, hcu⟩ := (HR.out.below HK.out.be).at_ l1
      obtain ⟨xv, rfl, _⟩ := HX.out u (List.mem_of_getElem? hxu)
      obtain ⟨a1, ha1⟩ : ∃ r, xv.tmod 10 = r := ⟨_, rfl⟩
      have hab := tmod_bdn xv 10 (by decide)
      rw [ha1] at hab
      obtain ⟨ab1, ab2⟩ := hab
      obtain ⟨a2, ha2, ha3⟩ : ∃ r : Nat, a1 + 10 = (r : Int) ∧ r < 20 := ⟨(a1 + 10).toNat, by omega, by omega⟩
      obtain ⟨o, ho, ho10⟩ : ∃ r : Nat, (a2 : Int) % 10 = (r : Int) ∧ r < 10 := ⟨a2 % 10, by omega, by omega⟩
      clear hxu
      rcases least_or S o with hno | ⟨f, kk, hle⟩
      · have CT := ltake_none HK.out.bd ho10 hno
        clear hno
        go_wp2_with fail
        refine CT.mono ?_; rintro e w6 ⟨rfl, rfl⟩
        clear CT
        go_wp2
        go_roundw
        case rel => exact ⟨i + 1, S, B, T, by go_num, by omega, by omega, HK.out, HTK.out⟩
        case measure => simp [cntI]; omega
      · have CT := ltake_some HK.out.bd hle
        have HLE := Lib.hid hle
        clear hle
        go_wp2_with fail
        refine CT.mono ?_; rintro e w6 ⟨rfl, ht9⟩
        obtain ⟨B6, hk6⟩ := HK.out.to ht9
        have HK6 := Lib.hid hk6
        clear hk6 ht9 CT HK hcu
        go_wp2_with (first
          | (at_builtin; refine wpList_append_any _ rfl (.tmp 71) (.tmp 75) _ rfl w.heap.size 34 i0 _ 2 16 Try.underlying31 hi0 hz0' hz1 hz2 rfl (by omega) u14 _ _ rfl (HK6.out.wt.alloc _) _ (some ⟨w6.heap.size, 0, none⟩) 1 1 [.int .i64 (f : Int), .int .i64 (o : Int)] rfl (reads_pair _ _ _ _) (by simp; exact ⟨rfl, rfl⟩) (by unfold maxLen; omega) (by omega) (by have := HK6.out.be.size; simp; omega) ?_; intro v2 w4 hown2 hg4 hat2)
          | go_in)
        have hk7 := (HK6.out.below ((Below.refl _ _).alloc (Nat.le_refl _) _)).app (T' := T ++ [(f, o)]) (by rw [List.length_append, List.flatMap_append]; exact hown2) hg4 (by
          rcases hat2 with h | h
          · exact .inl h
          · exact .inr ⟨_, h, Nat.le_refl _⟩)
        exact ⟨⟨i + 1, _, _, T ++ [(f, o)], by go_num, by omega, by rw [List.length_append]; simp; omega, hk7, HTK.out.snoc HLE.out (by omega)⟩, by simp [cntI]; omega⟩
    · have hlt' : m ≤ i ∨ (i < m ∧ 40 ≤ i) := by omega
      clear hlt
      rcases hlt' with h | ⟨h1, h2⟩
      · have hm31 : bits .and .i64 A3 31 = A3 % 32 := mask64 A3 5 (by omega)
        obtain ⟨cc, hcc, hcc2⟩ : ∃ cc : Nat, A3 % 32 = cc ∧ cc < 32 := ⟨(A3 % 32).toNat, by omega, by omega⟩
        rw [hcc] at hm31
        obtain ⟨Av, cv, rfl, hcell⟩ := own_sl HK.out.wt
        obtain ⟨L, hL⟩ : ∃ L, T.length = L := ⟨_, rfl⟩
        rw [hL] at hTl
        have HL := Lib.hid hL
        obtain ⟨md, hmd⟩ : ∃ md, (bits .and .i64 A3 32 != 0) = md := ⟨_, rfl⟩
        obtain ⟨r32, hr32⟩ : ∃ r32, bits .and .i64 A3 32 = r32 := ⟨_, rfl⟩
        rw [hr32] at hmd
        have HR32 := Lib.hid hr32
        clear hcell hcc hL
        go_wp2_with fail
        rw [HL.out]
        go_loopw [19] (GvnR w w.heap.size fi n vw L0 (.slice Av T.length cv) T cc) (fun v _ => L - cntI v)
        case atStart => exact ⟨0, S, B, rfl, Nat.zero_le _, HK.out, by
          have h9 := Gvn.start HTK.out
          rw [show (fun j => ∃ i', i' < 0 ∧ prm T.length cc i' = j) = fun _ => False from by
            funext j
            exact propext ⟨fun ⟨_, h, _⟩ => absurd h (Nat.not_lt_zero _), False.elim⟩]
          exact h9⟩
        case round =>
          clear HK
          obtain ⟨i, S, B, rfl, hiL, hbk, hgv⟩ := hrel
          have HK := Lib.hid hbk
          have HG := Lib.hid hgv
          rw [HL.out] at hiL
          clear hbk hgv
          by_cases hil : i < L
          · have g0 : decide ((i : Int) < (L : Int)) = true := by simp; exact hil
            have g0' : decide (i < L) = true := by simp; exact hil
            obtain ⟨i7, hi7, hi72⟩ : ∃ x : Nat, (i : Int) * 7 = (x : Int) ∧ x = i * 7 := ⟨i * 7, by simp, rfl⟩
            obtain ⟨x1, hx1, hx12⟩ : ∃ x : Nat, (i7 : Int) + (cc : Int) = (x : Int) ∧ x = i7 + cc := ⟨i7 + cc, by simp, rfl⟩
            obtain ⟨k1, hk1, hk12⟩ : ∃ x : Nat, (x1 : Int) % (L : Int) = (x : Int) ∧ x = x1 % L := ⟨x1 % L, by simp, rfl⟩
            obtain ⟨x2, hx2, hx22⟩ : ∃ x : Nat, (i : Int) + (cc : Int) = (x : Int) ∧ x = i + cc := ⟨i + cc, by simp, rfl⟩
            obtain ⟨k2, hk2, hk22⟩ : ∃ x : Nat, (x2 : Int) % (L : Int) = (x : Int) ∧ x = x2 % L := ⟨x2 % L, by simp, rfl⟩
            obtain ⟨r7, hr7, hr72⟩ : ∃ x : Nat, (L : Int) % 7 = (x : Int) ∧ x = L % 7 := ⟨L % 7, by simp, rfl⟩
            have hL0 : ¬ L = 0 := by omega
            have hm5 : bits .and .i64 (i : Int) 31 = (i : Int) % 32 := mask64 (i : Int) 5 (by omega)
            obtain ⟨i31, hi31, hi32⟩ : ∃ x : Nat, (i : Int) % 32 = (x : Int) ∧ x < 32 := ⟨i % 32, by simp, by omega⟩
            rw [hi31] at hm5
            clear hi31
            by_cases h7 : r7 = 0
            · have hp : prm L cc i = k2 := by
                unfold prm
                rw [if_pos (by omega), ← hx22, ← hk22]
              have g7 : ((r7 : Int) == 0) = true := by simp; exact h7
              have g7' : (r7 == 0) = true := by simp; exact h7
              have hkL : k2 < L := hp ▸ prm_lt (by omega)
              have HP := Lib.hid hp
              clear hp h7 hi72 hx12 hk12 hx22 hk22 hr72
              go_wp2_with fail
              rw [hk2]
              obtain ⟨⟨f, o⟩, hx⟩ : ∃ x, T[k2]? = some x := ⟨_, List.getElem?_eq_getElem (by rw [HL.out]; exact hkL)⟩
              obtain ⟨x0, x1'⟩ := flat_pv hx
              obtain ⟨ga, rfl, q0⟩ := own_prs HK.out.wt _ _ x0
              obtain ⟨_, e9, q1⟩ := own_prs HK.out.wt _ _ x1'
              cases e9
              have hkL2 : (k2 : Int) < (L : Int) := by omega
              have HXP := Lib.hid hx
              obtain ⟨al1, al2, al3, al4⟩ := HTK.out.al _ (List.mem_of_getElem? hx)
              have AL1 := Lib.hid (show f % 2 ^ o = 0 from al1)
              have al2' : o ≤ 9 := al2
              have al3' : fi ≤ f := al3
              have AL4 := Lib.hid (show f + 2 ^ o ≤ fi + n from al4)
              have hfb : f ≤ 6000 := by have := AL4.out; omega
              clear hx x0 x1' al1 al2 al3 al4
              go_quiet (fail)
              have HKQ := Lib.hid (HK.out.drewN nq)
              clear HK q0 q1
              generalize wr.drewN nq = w5 at *
              obtain ⟨zz, hzz⟩ : ∃ zz : Int, A4 / 2 ^ i31 = zz := ⟨_, rfl⟩
              obtain ⟨y8, hy8⟩ : ∃ y8 : Int, A4 / 8 = y8 := ⟨_, rfl⟩
              have hmz : bits .and .i64 zz 1 = zz % 2 := mask64 zz 1 (by omega)
              have hm8 : bits .and .i64 y8 3 = y8 % 4 := mask64 y8 2 (by omega)
              obtain ⟨c3, hc3, hc32⟩ : ∃ x : Nat, y8 % 4 = (x : Int) ∧ x < 4 := ⟨(y8 % 4).toNat, by omega, by omega⟩
              rw [hc3] at hm8
              obtain ⟨c4, hc4, hc42⟩ : ∃ x : Nat, (1 : Int) + (c3 : Int) = (x : Int) ∧ x = 1 + c3 := ⟨1 + c3, by simp, rfl⟩
              obtain ⟨cm, hcm, hcm2⟩ : ∃ x : Nat, min (o : Int) (c4 : Int) = (x : Int) ∧ x ≤ o := ⟨min o c4, by omega, by omega⟩
              clear hc3 hc42
              go_upto_if 118 with (fail)
              go_cut [23] (CtP w5 o)
              case first =>
                rcases (show zz % 2 = 0 ∨ zz % 2 = 1 by omega) with h | h
                · rw [h] at hmz
                  go_wp2
                  go_meet
                  exact ⟨0, rfl, Nat.zero_le _, rfl⟩
                · rw [h] at hmz
                  go_wp2
                  go_meet
                  exact ⟨cm, rfl, hcm2, rfl⟩
              case rest =>
                clear hmz hm8 hcm hc4 hy8 hzz
                obtain ⟨ct, rfl, hct, rfl⟩ := hcut
                obtain ⟨e, he, he2⟩ : ∃ e : Nat, (o : Int) - (ct : Int) = (e : Int) ∧ e = o - ct := ⟨o - ct, by omega, rfl⟩
                obtain ⟨C, hC, hC2, hC3⟩ : ∃ C : Nat, (2 : Int) ^ ct = (C : Int) ∧ C = 2 ^ ct ∧ C ≤ 512 := ⟨2 ^ ct, by simp, rfl, by have := Bud.pow_le (show ct ≤ 9 by omega); omega⟩
                obtain ⟨s, hs, hs2, hs3⟩ : ∃ s : Nat, (2 : Int) ^ e = (s : Int) ∧ s = 2 ^ e ∧ s ≤ 512 := ⟨2 ^ e, by simp, rfl, by have := Bud.pow_le (show e ≤ 9 by omega); omega⟩
                have HCS := Lib.hid (show C * s = 2 ^ o from by rw [hC2, hs2, ← Nat.pow_add]; congr 1; omega)
                have HS2 := Lib.hid hs2
                have HC0 := Lib.hid (show 0 < C from by rw [hC2]; exact Nat.two_pow_pos _)
                have heo : e ≤ o := by omega
                clear he2 hC2 hs2
                go_wp2_with fail
                go_loopw [24] (PcR w w.heap.size fi n vw L0 (.slice (some ⟨ga, 0, none⟩) T.length cv) T S md f s C) (fun v _ => C - cntI v)
                case atStart => exact ⟨0, S, B, rfl, Nat.zero_le _, HKQ.out, fun k => by
                  unfold pLo pHi
                  cases md <;> simp <;> (intro h1 h2; omega)⟩
                case round =>
                  clear HKQ
                  obtain ⟨j, S', B', rfl, hj, hbk', hset⟩ := hrel
                  have HK' := Lib.hid hbk'
                  have HSET := Lib.hid hset
                  clear hbk' hset
                  by_cases hjC : j < C
                  · have g1 : decide ((j : Int) < (C : Int)) = true := by simp; exact hjC
                    have g1' : decide (j < C) = true := by simp; exact hjC
                    obtain ⟨C1, hC1, hC12⟩ : ∃ x : Nat, (C : Int) - 1 = (x : Int) ∧ x = C - 1 := ⟨C - 1, by omega, rfl⟩
                    obtain ⟨xb, hxb, hxb2⟩ : ∃ x : Nat, (C1 : Int) - (j : Int) = (x : Int) ∧ x = C - 1 - j := ⟨C1 - j, by omega, by omega⟩
                    cases md
                    · obtain ⟨y', hy', hy'2⟩ : ∃ x : Nat, (j : Int) * (s : Int) = (x : Int) ∧ x = j * s := ⟨j * s, by simp, rfl⟩
                      obtain ⟨g, hg, hg2⟩ : ∃ x : Nat, (f : Int) + (y' : Int) = (x : Int) ∧ x = f + j * s := ⟨f + y', by simp, by rw [hy'2]⟩
                      have hxC : j + 1 ≤ C := by omega
                      have hmul : j * s + s ≤ 2 ^ o := by
                        have := Nat.mul_le_mul_right s hxC
                        rw [Nat.succ_mul, HCS.out] at this
                        exact this
                      have hyb : y' ≤ 512 := by have := Bud.pow_le al2'; omega
                      have HGG := Lib.hid hg2
                      have HMU := Lib.hid hmul
                      have CG := Lib.hid (lgive_ok (f := g) (o := e) HK'.out.bd (by omega) (by
                        have h1 := Bud.mod_le AL1.out heo
                        rw [hg2, HS2.out, Nat.add_mod, h1, Nat.mul_mod_left]; simp) (by omega) (by have := AL4.out; rw [← HS2.out]; omega) (fun k k1 k2 => by
                        rw [← HS2.out] at k2
                        cases hs' : S' k
                        · rfl
                        · exfalso
                          rcases (HSET.out k).1 hs' with h1 | ⟨h1, h2⟩
                          · rw [HG.out.free HXP.out (fun ⟨i', h3, h4⟩ => by
                              rw [HL.out] at h4
                              have := prm_inj (c := cc) (show i' < L by omega) hil (h4.trans HP.out.symm)
                              omega) ⟨by show f ≤ k; omega, by show k < f + 2 ^ o; omega⟩] at h1
                            cases h1
                          · (unfold pLo at h1; unfold pHi at h2; simp at h1 h2; omega)))
                      have HNEW := Lib.hid (show ∀ k, Bud.more S' g e k = true ↔ S k = true ∨ (pLo false f s C (j + 1) ≤ k ∧ k < pHi false f s C (j + 1)) from fun k => by
                        rw [Bud.more_iff, HSET.out k, ← HS2.out, or_assoc]
                        refine or_congr_right ?_
                        (unfold pLo pHi; simp only [Bool.false_eq_true, if_false]; rw [hg2, Nat.succ_mul]; omega))
                      clear hy'2 hg2 hmul hC12 hxb2
                      go_wp2_with fail
                      refine CG.out.mono ?_; rintro e9 w6 ⟨rfl, ht9⟩
                      obtain ⟨B7, hk7⟩ := HK'.out.to ht9
                      have HK7 := Lib.hid hk7
                      clear hk7 ht9
                      go_wp2
                      go_roundw
                      case rel => exact ⟨j + 1, _, B7, by go_num, by omega, HK7.out, HNEW.out⟩
                      case measure => simp [cntI]; omega
                    · obtain ⟨y', hy', hy'2⟩ : ∃ x : Nat, (xb : Int) * (s : Int) = (x : Int) ∧ x = xb * s := ⟨xb * s, by simp, rfl⟩
                      obtain ⟨g, hg, hg2⟩ : ∃ x : Nat, (f : Int) + (y' : Int) = (x : Int) ∧ x = f + xb * s := ⟨f + y', by simp, by rw [hy'2]⟩
                      have hxC : xb + 1 ≤ C := by omega
                      have hmul : xb * s + s ≤ 2 ^ o := by
                        have := Nat.mul_le_mul_right s hxC
                        rw [Nat.succ_mul, HCS.out] at this
                        exact this
                      have hyb : y' ≤ 512 := by have := Bud.pow_le al2'; omega
                      have HGG := Lib.hid hg2
                      have HMU := Lib.hid hmul
                      have CG := Lib.hid (lgive_ok (f := g) (o := e) HK'.out.bd (by omega) (by
                        have h1 := Bud.mod_le AL1.out heo
                        rw [hg2, HS2.out, Nat.add_mod, h1, Nat.mul_mod_left]; simp) (by omega) (by have := AL4.out; rw [← HS2.out]; omega) (fun k k1 k2 => by
                        rw [← HS2.out] at k2
                        cases hs' : S' k
                        · rfl
                        · exfalso
                          rcases (HSET.out k).1 hs' with h1 | ⟨h1, h2⟩
                          · rw [HG.out.free HXP.out (fun ⟨i', h3, h4⟩ => by
                              rw [HL.out] at h4
                              have := prm_inj (c := cc) (show i' < L by omega) hil (h4.trans HP.out.symm)
                              omega) ⟨by show f ≤ k; omega, by show k < f + 2 ^ o; omega⟩] at h1
                            cases h1
                          · (unfold pLo at h1; unfold pHi at h2; simp only [if_true] at h1 h2; rw [show C - j = xb + 1 by omega, Nat.succ_mul] at h1; omega)))
                      have HNEW := Lib.hid (show ∀ k, Bud.more S' g e k = true ↔ S k = true ∨ (pLo true f s C (j + 1) ≤ k ∧ k < pHi true f s C (j + 1)) from fun k => by
                        rw [Bud.more_iff, HSET.out k, ← HS2.out, or_assoc]
                        refine or_congr_right ?_
                        (unfold pLo pHi; simp only [if_true]; rw [hg2, show C - j = xb + 1 by omega, show C - (j + 1) = xb by omega, Nat.succ_mul]; have := HCS.out; omega))
                      clear hy'2 hg2 hmul hC12 hxb2
                      go_wp2_with fail
                      refine CG.out.mono ?_; rintro e9 w6 ⟨rfl, ht9⟩
                      obtain ⟨B7, hk7⟩ := HK'.out.to ht9
                      have HK7 := Lib.hid hk7
                      clear hk7 ht9
                      go_wp2
                      go_roundw
                      case rel => exact ⟨j + 1, _, B7, by go_num, by omega, HK7.out, HNEW.out⟩
                      case measure => simp [cntI]; omega
                  · obtain rfl : j = C := by omega
                    have g1 : decide ((j : Int) < (j : Int)) = false := by simp
                    have hgs := HG.out.step (S' := S') HTK.out HXP.out (fun k => by
                      rw [HSET.out k]
                      have hcs := HCS.out
                      unfold pLo pHi inR
                      cases md
                      · show _ ∨ (f ≤ k ∧ k < f + j * s) ↔ _ ∨ (f ≤ k ∧ k < f + 2 ^ o)
                        rw [hcs]
                      · show _ ∨ (f + (j - j) * s ≤ k ∧ k < f + j * s) ↔ _ ∨ (f ≤ k ∧ k < f + 2 ^ o)
                        rw [hcs, Nat.sub_self, Nat.zero_mul, Nat.add_zero])
                    have HGS := Lib.hid hgs
                    clear hgs
                    go_wp2
                    go_roundw
                    case rel => exact ⟨i + 1, S', B', by go_num, by rw [HL.out]; omega, HK'.out, HGS.out.congr fun z => by
                      have hpp := HP.out
                      rw [HL.out]
                      constructor
                      · rintro (⟨i', h1, h2⟩ | h1)
                        · exact ⟨i', by omega, h2⟩
                        · exact ⟨i, by omega, by rw [hpp, h1]⟩
                      · rintro ⟨i', h1, h2⟩
                        by_cases h3 : i' = i
                        · subst h3; right; rw [← h2, hpp]
                        · exact .inl ⟨i', by omega, h2⟩⟩
                    case measure => simp [cntI]; omega
            · have hp : prm L cc i = k1 := by
                unfold prm
                rw [if_neg (by omega), ← hi72, ← hx12, ← hk12]
              have g7 : ((r7 : Int) == 0) = false := by simp; exact h7
              have g7' : (r7 == 0) = false := by simp; exact h7
              have hkL : k1 < L := hp ▸ prm_lt (by omega)
              have HP := Lib.hid hp
              clear hp h7 hi72 hx12 hk12 hx22 hk22 hr72
              go_wp2_with fail
              rw [hk1]
              obtain ⟨⟨f, o⟩, hx⟩ : ∃ x, T[k1]? = some x := ⟨_, List.getElem?_eq_getElem (by rw [HL.out]; exact hkL)⟩
              obtain ⟨x0, x1'⟩ := flat_pv hx
              obtain ⟨ga, rfl, q0⟩ := own_prs HK.out.wt _ _ x0
              obtain ⟨_, e9, q1⟩ := own_prs HK.out.wt _ _ x1'
              cases e9
              have hkL2 : (k1 : Int) < (L : Int) := by omega
              have HXP := Lib.hid hx
              obtain ⟨al1, al2, al3, al4⟩ := HTK.out.al _ (List.mem_of_getElem? hx)
              have AL1 := Lib.hid (show f % 2 ^ o = 0 from al1)
              have al2' : o ≤ 9 := al2
              have al3' : fi ≤ f := al3
              have AL4 := Lib.hid (show f + 2 ^ o ≤ fi + n from al4)
              have hfb : f ≤ 6000 := by have := AL4.out; omega
              clear hx x0 x1' al1 al2 al3 al4
              go_quiet (fail)
              have HKQ := Lib.hid (HK.out.drewN nq)
              clear HK q0 q1
              generalize wr.drewN nq = w5 at *
              obtain ⟨zz, hzz⟩ : ∃ zz : Int, A4 / 2 ^ i31 = zz := ⟨_, rfl⟩
              obtain ⟨y8, hy8⟩ : ∃ y8 : Int, A4 / 8 = y8 := ⟨_, rfl⟩
              have hmz : bits .and .i64 zz 1 = zz % 2 := mask64 zz 1 (by omega)
              have hm8 : bits .and .i64 y8 3 = y8 % 4 := mask64 y8 2 (by omega)
              obtain ⟨c3, hc3, hc32⟩ : ∃ x : Nat, y8 % 4 = (x : Int) ∧ x < 4 := ⟨(y8 % 4).toNat, by omega, by omega⟩
              rw [hc3] at hm8
              obtain ⟨c4, hc4, hc42⟩ : ∃ x : Nat, (1 : Int) + (c3 : Int) = (x : Int) ∧ x = 1 + c3 := ⟨1 + c3, by simp, rfl⟩
              obtain ⟨cm, hcm, hcm2⟩ : ∃ x : Nat, min (o : Int) (c4 : Int) = (x : Int) ∧ x ≤ o := ⟨min o c4, by omega, by omega⟩
              clear hc3 hc42
              go_upto_if 118 with (fail)
              go_cut [23] (CtP w5 o)
              case first =>
                rcases (show zz % 2 = 0 ∨ zz % 2 = 1 by omega) with h | h
                · rw [h] at hmz
                  go_wp2
                  go_meet
                  exact ⟨0, rfl, Nat.zero_le _, rfl⟩
                · rw [h] at hmz
                  go_wp2
                  go_meet
                  exact ⟨cm, rfl, hcm2, rfl⟩
              case rest =>
                clear hmz hm8 hcm hc4 hy8 hzz
                obtain ⟨ct, rfl, hct, rfl⟩ := hcut
                obtain ⟨e, he, he2⟩ : ∃ e : Nat, (o : Int) - (ct : Int) = (e : Int) ∧ e = o - ct := ⟨o - ct, by omega, rfl⟩
                obtain ⟨C, hC, hC2, hC3⟩ : ∃ C : Nat, (2 : Int) ^ ct = (C : Int) ∧ C = 2 ^ ct ∧ C ≤ 512 := ⟨2 ^ ct, by simp, rfl, by have := Bud.pow_le (show ct ≤ 9 by omega); omega⟩
                obtain ⟨s, hs, hs2, hs3⟩ : ∃ s : Nat, (2 : Int) ^ e = (s : Int) ∧ s = 2 ^ e ∧ s ≤ 512 := ⟨2 ^ e, by simp, rfl, by have := Bud.pow_le (show e ≤ 9 by omega); omega⟩
                have HCS := Lib.hid (show C * s = 2 ^ o from by rw [hC2, hs2, ← Nat.pow_add]; congr 1; omega)
                have HS2 := Lib.hid hs2
                have HC0 := Lib.hid (show 0 < C from by rw [hC2]; exact Nat.two_pow_pos _)
                have heo : e ≤ o := by omega
                clear he2 hC2 hs2
                go_wp2_with fail
                go_loopw [24] (PcR w w.heap.size fi n vw L0 (.slice (some ⟨ga, 0, none⟩) T.length cv) T S md f s C) (fun v _ => C - cntI v)
                case atStart => exact ⟨0, S, B, rfl, Nat.zero_le _, HKQ.out, fun k => by
                  unfold pLo pHi
                  cases md <;> simp <;> (intro h1 h2; omega)⟩
                case round =>
                  clear HKQ
                  obtain ⟨j, S', B', rfl, hj, hbk', hset⟩ := hrel
                  have HK' := Lib.hid hbk'
                  have HSET := Lib.hid hset
                  clear hbk' hset
                  by_cases hjC : j < C
                  · have g1 : decide ((j : Int) < (C : Int)) = true := by simp; exact hjC
                    have g1' : decide (j < C) = true := by simp; exact hjC
                    obtain ⟨C1, hC1, hC12⟩ : ∃ x : Nat, (C : Int) - 1 = (x : Int) ∧ x = C - 1 := ⟨C - 1, by omega, rfl⟩
                    obtain ⟨xb, hxb, hxb2⟩ : ∃ x : Nat, (C1 : Int) - (j : Int) = (x : Int) ∧ x = C - 1 - j := ⟨C1 - j, by omega, by omega⟩
                    cases md
                    · obtain ⟨y', hy', hy'2⟩ : ∃ x : Nat, (j : Int) * (s : Int) = (x : Int) ∧ x = j * s := ⟨j * s, by simp, rfl⟩
                      obtain ⟨g, hg, hg2⟩ : ∃ x : Nat, (f : Int) + (y' : Int) = (x : Int) ∧ x = f + j * s := ⟨f + y', by simp, by rw [hy'2]⟩
                      have hxC : j + 1 ≤ C := by omega
                      have hmul : j * s + s ≤ 2 ^ o := by
                        have := Nat.mul_le_mul_right s hxC
                        rw [Nat.succ_mul, HCS.out] at this
                        exact this
                      have hyb : y' ≤ 512 := by have := Bud.pow_le al2'; omega
                      have HGG := Lib.hid hg2
                      have HMU := Lib.hid hmul
                      have CG := Lib.hid (lgive_ok (f := g) (o := e) HK'.out.bd (by omega) (by
                        have h1 := Bud.mod_le AL1.out heo
                        rw [hg2, HS2.out, Nat.add_mod, h1, Nat.mul_mod_left]; simp) (by omega) (by have := AL4.out; rw [← HS2.out]; omega) (fun k k1 k2 => by
                        rw [← HS2.out] at k2
                        cases hs' : S' k
                        · rfl
                        · exfalso
                          rcases (HSET.out k).1 hs' with h1 | ⟨h1, h2⟩
                          · rw [HG.out.free HXP.out (fun ⟨i', h3, h4⟩ => by
                              rw [HL.out] at h4
                              have := prm_inj (c := cc) (show i' < L by omega) hil (h4.trans HP.out.symm)
                              omega) ⟨by show f ≤ k; omega, by show k < f + 2 ^ o; omega⟩] at h1
                            cases h1
                          · (unfold pLo at h1; unfold pHi at h2; simp at h1 h2; omega)))
                      have HNEW := Lib.hid (show ∀ k, Bud.more S' g e k = true ↔ S k = true ∨ (pLo false f s C (j + 1) ≤ k ∧ k < pHi false f s C (j + 1)) from fun k => by
                        rw [Bud.more_iff, HSET.out k, ← HS2.out, or_assoc]
                        refine or_congr_right ?_
                        (unfold pLo pHi; simp only [Bool.false_eq_true, if_false]; rw [hg2, Nat.succ_mul]; omega))
                      clear hy'2 hg2 hmul hC12 hxb2
                      go_wp2_with fail
                      refine CG.out.mono ?_; rintro e9 w6 ⟨rfl, ht9⟩
                      obtain ⟨B7, hk7⟩ := HK'.out.to ht9
                      have HK7 := Lib.hid hk7
                      clear hk7 ht9
                      go_wp2
                      go_roundw
                      case rel => exact ⟨j + 1, _, B7, by go_num, by omega, HK7.out, HNEW.out⟩
                      case measure => simp [cntI]; omega
                    · obtain ⟨y', hy', hy'2⟩ : ∃ x : Nat, (xb : Int) * (s : Int) = (x : Int) ∧ x = xb * s := ⟨xb * s, by simp, rfl⟩
                      obtain ⟨g, hg, hg2⟩ : ∃ x : Nat, (f : Int) + (y' : Int) = (x : Int) ∧ x = f + xb * s := ⟨f + y', by simp, by rw [hy'2]⟩
                      have hxC : xb + 1 ≤ C := by omega
                      have hmul : xb * s + s ≤ 2 ^ o := by
                        have := Nat.mul_le_mul_right s hxC
                        rw [Nat.succ_mul, HCS.out] at this
                        exact this
                      have hyb : y' ≤ 512 := by have := Bud.pow_le al2'; omega
                      have HGG := Lib.hid hg2
                      have HMU := Lib.hid hmul
                      have CG := Lib.hid (lgive_ok (f := g) (o := e) HK'.out.bd (by omega) (by
                        have h1 := Bud.mod_le AL1.out heo
                        rw [hg2, HS2.out, Nat.add_mod, h1, Nat.mul_mod_left]; simp) (by omega) (by have := AL4.out; rw [← HS2.out]; omega) (fun k k1 k2 => by
                        rw [← HS2.out] at k2
                        cases hs' : S' k
                        · rfl
                        · exfalso
                          rcases (HSET.out k).1 hs' with h1 | ⟨h1, h2⟩
                          · rw [HG.out.free HXP.out (fun ⟨i', h3, h4⟩ => by
                              rw [HL.out] at h4
                              have := prm_inj (c := cc) (show i' < L by omega) hil (h4.trans HP.out.symm)
                              omega) ⟨by show f ≤ k; omega, by show k < f + 2 ^ o; omega⟩] at h1
                            cases h1
                          · (unfold pLo at h1; unfold pHi at h2; simp only [if_true] at h1 h2; rw [show C - j = xb + 1 by omega, Nat.succ_mul] at h1; omega)))
                      have HNEW := Lib.hid (show ∀ k, Bud.more S' g e k = true ↔ S k = true ∨ (pLo true f s C (j + 1) ≤ k ∧ k < pHi true f s C (j + 1)) from fun k => by
                        rw [Bud.more_iff, HSET.out k, ← HS2.out, or_assoc]
                        refine or_congr_right ?_
                        (unfold pLo pHi; simp only [if_true]; rw [hg2, show C - j = xb + 1 by omega, show C - (j + 1) = xb by omega, Nat.succ_mul]; have := HCS.out; omega))
                      clear hy'2 hg2 hmul hC12 hxb2
                      go_wp2_with fail
                      refine CG.out.mono ?_; rintro e9 w6 ⟨rfl, ht9⟩
                      obtain ⟨B7, hk7⟩ := HK'.out.to ht9
                      have HK7 := Lib.hid hk7
                      clear hk7 ht9
                      go_wp2
                      go_roundw
                      case rel => exact ⟨j + 1, _, B7, by go_num, by omega, HK7.out, HNEW.out⟩
                      case measure => simp [cntI]; omega
                  · obtain rfl : j = C := by omega
                    have g1 : decide ((j : Int) < (j : Int)) = false := by simp
                    have hgs := HG.out.step (S' := S') HTK.out HXP.out (fun k => by
                      rw [HSET.out k]
                      have hcs := HCS.out
                      unfold pLo pHi inR
                      cases md
                      · show _ ∨ (f ≤ k ∧ k < f + j * s) ↔ _ ∨ (f ≤ k ∧ k < f + 2 ^ o)
                        rw [hcs]
                      · show _ ∨ (f + (j - j) * s ≤ k ∧ k < f + j * s) ↔ _ ∨ (f ≤ k ∧ k < f + 2 ^ o)
                        rw [hcs, Nat.sub_self, Nat.zero_mul, Nat.add_zero])
                    have HGS := Lib.hid hgs
                    clear hgs
                    go_wp2
                    go_roundw
                    case rel => exact ⟨i + 1, S', B', by go_num, by rw [HL.out]; omega, HK'.out, HGS.out.congr fun z => by
                      have hpp := HP.out
                      rw [HL.out]
                      constructor
                      · rintro (⟨i', h1, h2⟩ | h1)
                        · exact ⟨i', by omega, h2⟩
                        · exact ⟨i, by omega, by rw [hpp, h1]⟩
                      · rintro ⟨i', h1, h2⟩
                        by_cases h3 : i' = i
                        · subst h3; right; rw [← h2, hpp]
                        · exact .inl ⟨i', by omega, h2⟩⟩
                    case measure => simp [cntI]; omega
          · have g0 : decide ((i : Int) < (L : Int)) = false := by simp; omega
            have g0' : decide (i < L) = false := by simp; omega
            have hS : S = seg fi n := HG.out.all fun j hj => by
              rw [HL.out] at hj ⊢
              obtain ⟨i', h1, h2⟩ := prm_all (c := cc) hj
              exact ⟨i', by omega, h2⟩
            subst hS
            obtain ⟨Aw, cw, rfl, _⟩ := own_sl HK.out.ww
            go_wp2_with fail
            refine (told_any _).mono ?_; rintro e w7 ⟨rfl, hb7⟩
            have HK7 := Lib.hid (HK.out.below hb7)
            have CF := lfree HK7.out.bd
            rw [show cntS (seg fi n) fi n = n from cntS_all fun k k1 k2 => seg_iff.2 ⟨k1, k2⟩] at CF
            clear hb7 HK
            go_wp2_with fail
            refine CF.mono ?_; rintro e w8 ⟨rfl, rfl⟩
            clear CF
            go_wp2_with fail
            refine (lruns HK7.out.bd).mono ?_; rintro e w8 ⟨v8, us, rfl, hus, hown8, hb8⟩
            obtain rfl := hus.unique HL0.out
            have HK8 := Lib.hid (HK7.out.below hb8)
            obtain ⟨A8, c8, rfl, hc8⟩ := own_sl hown8
            have CR := runs_same A8 Aw c8 cw us w8 hc8 (own_prs HK8.out.ww) (by
              have h1 := HL0.out.sum (a := fi) (n := n) HK8.out.bd.rng
              have h2 := sumR_len us
              have h3 := cntS_le (seg fi n) fi n
              omega) (fun ⟨f, o⟩ hx => by
              obtain ⟨m1, m2, m3⟩ := HK8.out.bd.mx ((HL0.out.2 f o).1 hx)
              have := Bud.pow_pos o
              exact ⟨by show f ≤ 2097152; omega, m3⟩)
            clear hus hown8 hb8 hc8 HK7
            go_wp2_with fail
            refine CR.mono ?_; rintro e w9 ⟨rfl, q9, rfl⟩
            have HB9 := Lib.hid (below_drewN HK8.out.be q9)
            clear CR
            go_wp2
            go_ret
            exact ⟨rfl, HB9.out⟩
      · have hm31 : bits .and .i64 A3 31 = A3 % 32 := mask64 A3 5 (by omega)
        obtain ⟨cc, hcc, hcc2⟩ : ∃ cc : Nat, A3 % 32 = cc ∧ cc < 32 := ⟨(A3 % 32).toNat, by omega, by omega⟩
        rw [hcc] at hm31
        obtain ⟨Av, cv, rfl, hcell⟩ := own_sl HK.out.wt
        obtain ⟨L, hL⟩ : ∃ L, T.length = L := ⟨_, rfl⟩
        rw [hL] at hTl
        have HL := Lib.hid hL
        obtain ⟨md, hmd⟩ : ∃ md, (bits .and .i64 A3 32 != 0) = md := ⟨_, rfl⟩
        obtain ⟨r32, hr32⟩ : ∃ r32, bits .and .i64 A3 32 = r32 := ⟨_, rfl⟩
        rw [hr32] at hmd
        have HR32 := Lib.hid hr32
        clear hcell hcc hL
        go_wp2_with fail
        rw [HL.out]
        go_loopw [19] (GvnR w w.heap.size fi n vw L0 (.slice Av T.length cv) T cc) (fun v _ => L - cntI v)
        case atStart => exact ⟨0, S, B, rfl, Nat.zero_le _, HK.out, by
          have h9 := Gvn.start HTK.out
          rw [show (fun j => ∃ i', i' < 0 ∧ prm T.length cc i' = j) = fun _ => False from by
            funext j
            exact propext ⟨fun ⟨_, h, _⟩ => absurd h (Nat.not_lt_zero _), False.elim⟩]
          exact h9⟩
        case round =>
          clear HK
          obtain ⟨i, S, B, rfl, hiL, hbk, hgv⟩ := hrel
          have HK := Lib.hid hbk
          have HG := Lib.hid hgv
          rw [HL.out] at hiL
          clear hbk hgv
          by_cases hil : i < L
          · have g0 : decide ((i : Int) < (L : Int)) = true := by simp; exact hil
            have g0' : decide (i < L) = true := by simp; exact hil
            obtain ⟨i7, hi7, hi72⟩ : ∃ x : Nat, (i : Int) * 7 = (x : Int) ∧ x = i * 7 := ⟨i * 7, by simp, rfl⟩
            obtain ⟨x1, hx1, hx12⟩ : ∃ x : Nat, (i7 : Int) + (cc : Int) = (x : Int) ∧ x = i7 + cc := ⟨i7 + cc, by simp, rfl⟩
            obtain ⟨k1, hk1, hk12⟩ : ∃ x : Nat, (x1 : Int) % (L : Int) = (x : Int) ∧ x = x1 % L := ⟨x1 % L, by simp, rfl⟩
            obtain ⟨x2, hx2, hx22⟩ : ∃ x : Nat, (i : Int) + (cc : Int) = (x : Int) ∧ x = i + cc := ⟨i + cc, by simp, rfl⟩
            obtain ⟨k2, hk2, hk22⟩ : ∃ x : Nat, (x2 : Int) % (L : Int) = (x : Int) ∧ x = x2 % L := ⟨x2 % L, by simp, rfl⟩
            obtain ⟨r7, hr7, hr72⟩ : ∃ x : Nat, (L : Int) % 7 = (x : Int) ∧ x = L % 7 := ⟨L % 7, by simp, rfl⟩
            have hL0 : ¬ L = 0 := by omega
            have hm5 : bits .and .i64 (i : Int) 31 = (i : Int) % 32 := mask64 (i : Int) 5 (by omega)
            obtain ⟨i31, hi31, hi32⟩ : ∃ x : Nat, (i : Int) % 32 = (x : Int) ∧ x < 32 := ⟨i % 32, by simp, by omega⟩
            rw [hi31] at hm5
            clear hi31
            by_cases h7 : r7 = 0
            · have hp : prm L cc i = k2 := by
                unfold prm
                rw [if_pos (by omega), ← hx22, ← hk22]
              have g7 : ((r7 : Int) == 0) = true := by simp; exact h7
              have g7' : (r7 == 0) = true := by simp; exact h7
              have hkL : k2 < L := hp ▸ prm_lt (by omega)
              have HP := Lib.hid hp
              clear hp h7 hi72 hx12 hk12 hx22 hk22 hr72
              go_wp2_with fail
              rw [hk2]
              obtain ⟨⟨f, o⟩, hx⟩ : ∃ x, T[k2]? = some x := ⟨_, List.getElem?_eq_getElem (by rw [HL.out]; exact hkL)⟩
              obtain ⟨x0, x1'⟩ := flat_pv hx
              obtain ⟨ga, rfl, q0⟩ := own_prs HK.out.wt _ _ x0
              obtain ⟨_, e9, q1⟩ := own_prs HK.out.wt _ _ x1'
              cases e9
              have hkL2 : (k2 : Int) < (L : Int) := by omega
              have HXP := Lib.hid hx
              obtain ⟨al1, al2, al3, al4⟩ := HTK.out.al _ (List.mem_of_getElem? hx)
              have AL1 := Lib.hid (show f % 2 ^ o = 0 from al1)
              have al2' : o ≤ 9 := al2
              have al3' : fi ≤ f := al3
              have AL4 := Lib.hid (show f + 2 ^ o ≤ fi + n from al4)
              have hfb : f ≤ 6000 := by have := AL4.out; omega
              clear hx x0 x1' al1 al2 al3 al4
              go_quiet (fail)
              have HKQ := Lib.hid (HK.out.drewN nq)
              clear HK q0 q1
              generalize wr.drewN nq = w5 at *
              obtain ⟨zz, hzz⟩ : ∃ zz : Int, A4 / 2 ^ i31 = zz := ⟨_, rfl⟩
              obtain ⟨y8, hy8⟩ : ∃ y8 : Int, A4 / 8 = y8 := ⟨_, rfl⟩
              have hmz : bits .and .i64 zz 1 = zz % 2 := mask64 zz 1 (by omega)
              have hm8 : bits .and .i64 y8 3 = y8 % 4 := mask64 y8 2 (by omega)
              obtain ⟨c3, hc3, hc32⟩ : ∃ x : Nat, y8 % 4 = (x : Int) ∧ x < 4 := ⟨(y8 % 4).toNat, by omega, by omega⟩
              rw [hc3] at hm8
              obtain ⟨c4, hc4, hc42⟩ : ∃ x : Nat, (1 : Int) + (c3 : Int) = (x : Int) ∧ x = 1 + c3 := ⟨1 + c3, by simp, rfl⟩
              obtain ⟨cm, hcm, hcm2⟩ : ∃ x : Nat, min (o : Int) (c4 : Int) = (x : Int) ∧ x ≤ o := ⟨min o c4, by omega, by omega⟩
              clear hc3 hc42
              go_upto_if 118 with (fail)
              go_cut [23] (CtP w5 o)
              case first =>
                rcases (show zz % 2 = 0 ∨ zz % 2 = 1 by omega) with h | h
                · rw [h] at hmz
                  go_wp2
                  go_meet
                  exact ⟨0, rfl, Nat.zero_le _, rfl⟩
                · rw [h] at hmz
                  go_wp2
                  go_meet
                  exact ⟨cm, rfl, hcm2, rfl⟩
              case rest =>
                clear hmz hm8 hcm hc4 hy8 hzz
                obtain ⟨ct, rfl, hct, rfl⟩ := hcut
                obtain ⟨e, he, he2⟩ : ∃ e : Nat, (o : Int) - (ct : Int) = (e : Int) ∧ e = o - ct := ⟨o - ct, by omega, rfl⟩
                obtain ⟨C, hC, hC2, hC3⟩ : ∃ C : Nat, (2 : Int) ^ ct = (C : Int) ∧ C = 2 ^ ct ∧ C ≤ 512 := ⟨2 ^ ct, by simp, rfl, by have := Bud.pow_le (show ct ≤ 9 by omega); omega⟩
                obtain ⟨s, hs, hs2, hs3⟩ : ∃ s : Nat, (2 : Int) ^ e = (s : Int) ∧ s = 2 ^ e ∧ s ≤ 512 := ⟨2 ^ e, by simp, rfl, by have := Bud.pow_le (show e ≤ 9 by omega); omega⟩
                have HCS := Lib.hid (show C * s = 2 ^ o from by rw [hC2, hs2, ← Nat.pow_add]; congr 1; omega)
                have HS2 := Lib.hid hs2
                have HC0 := Lib.hid (show 0 < C from by rw [hC2]; exact Nat.two_pow_pos _)
                have heo : e ≤ o := by omega
                clear he2 hC2 hs2
                go_wp2_with fail
                go_loopw [24] (PcR w w.heap.size fi n vw L0 (.slice (some ⟨ga, 0, none⟩) T.length cv) T S md f s C) (fun v _ => C - cntI v)
                case atStart => exact ⟨0, S, B, rfl, Nat.zero_le _, HKQ.out, fun k => by
                  unfold pLo pHi
                  cases md <;> simp <;> (intro h1 h2; omega)⟩
                case round =>
                  clear HKQ
                  obtain ⟨j, S', B', rfl, hj, hbk', hset⟩ := hrel
                  have HK' := Lib.hid hbk'
                  have HSET := Lib.hid hset
                  clear hbk' hset
                  by_cases hjC : j < C
                  · have g1 : decide ((j : Int) < (C : Int)) = true := by simp; exact hjC
                    have g1' : decide (j < C) = true := by simp; exact hjC
                    obtain ⟨C1, hC1, hC12⟩ : ∃ x : Nat, (C : Int) - 1 = (x : Int) ∧ x = C - 1 := ⟨C - 1, by omega, rfl⟩
                    obtain ⟨xb, hxb, hxb2⟩ : ∃ x : Nat, (C1 : Int) - (j : Int) = (x : Int) ∧ x = C - 1 - j := ⟨C1 - j, by omega, by omega⟩
                    cases md
                    · obtain ⟨y', hy', hy'2⟩ : ∃ x : Nat, (j : Int) * (s : Int) = (x : Int) ∧ x = j * s := ⟨j * s, by simp, rfl⟩
                      obtain ⟨g, hg, hg2⟩ : ∃ x : Nat, (f : Int) + (y' : Int) = (x : Int) ∧ x = f + j * s := ⟨f + y', by simp, by rw [hy'2]⟩
                      have hxC : j + 1 ≤ C := by omega
                      have hmul : j * s + s ≤ 2 ^ o := by
                        have := Nat.mul_le_mul_right s hxC
                        rw [Nat.succ_mul, HCS.out] at this
                        exact this
                      have hyb : y' ≤ 512 := by have := Bud.pow_le al2'; omega
                      have HGG := Lib.hid hg2
                      have HMU := Lib.hid hmul
                      have CG := Lib.hid (lgive_ok (f := g) (o := e) HK'.out.bd (by omega) (by
                        have h1 := Bud.mod_le AL1.out heo
                        rw [hg2, HS2.out, Nat.add_mod, h1, Nat.mul_mod_left]; simp) (by omega) (by have := AL4.out; rw [← HS2.out]; omega) (fun k k1 k2 => by
                        rw [← HS2.out] at k2
                        cases hs' : S' k
                        · rfl
                        · exfalso
                          rcases (HSET.out k).1 hs' with h1 | ⟨h1, h2⟩
                          · rw [HG.out.free HXP.out (fun ⟨i', h3, h4⟩ => by
                              rw [HL.out] at h4
                              have := prm_inj (c := cc) (show i' < L by omega) hil (h4.trans HP.out.symm)
                              omega) ⟨by show f ≤ k; omega, by show k < f + 2 ^ o; omega⟩] at h1
                            cases h1
                          · (unfold pLo at h1; unfold pHi at h2; simp at h1 h2; omega)))
                      have HNEW := Lib.hid (show ∀ k, Bud.more S' g e k = true ↔ S k = true ∨ (pLo false f s C (j + 1) ≤ k ∧ k < pHi false f s C (j + 1)) from fun k => by
                        rw [Bud.more_iff, HSET.out k, ← HS2.out, or_assoc]
                        refine or_congr_right ?_
                        (unfold pLo pHi; simp only [Bool.false_eq_true, if_false]; rw [hg2, Nat.succ_mul]; omega))
                      clear hy'2 hg2 hmul hC12 hxb2
                      go_wp2_with fail
                      refine CG.out.mono ?_; rintro e9 w6 ⟨rfl, ht9⟩
                      obtain ⟨B7, hk7⟩ := HK'.out.to ht9
                      have HK7 := Lib.hid hk7
                      clear hk7 ht9
                      go_wp2
                      go_roundw
                      case rel => exact ⟨j + 1, _, B7, by go_num, by omega, HK7.out, HNEW.out⟩
                      case measure => simp [cntI]; omega
                    · obtain ⟨y', hy', hy'2⟩ : ∃ x : Nat, (xb : Int) * (s : Int) = (x : Int) ∧ x = xb * s := ⟨xb * s, by simp, rfl⟩
                      obtain ⟨g, hg, hg2⟩ : ∃ x : Nat, (f : Int) + (y' : Int) = (x : Int) ∧ x = f + xb * s := ⟨f + y', by simp, by rw [hy'2]⟩
                      have hxC : xb + 1 ≤ C := by omega
                      have hmul : xb * s + s ≤ 2 ^ o := by
                        have := Nat.mul_le_mul_right s hxC
                        rw [Nat.succ_mul, HCS.out] at this
                        exact this
                      have hyb : y' ≤ 512 := by have := Bud.pow_le al2'; omega
                      have HGG := Lib.hid hg2
                      have HMU := Lib.hid hmul
                      have CG := Lib.hid (lgive_ok (f := g) (o := e) HK'.out.bd (by omega) (by
                        have h1 := Bud.mod_le AL1.out heo
                        rw [hg2, HS2.out, Nat.add_mod, h1, Nat.mul_mod_left]; simp) (by omega) (by have := AL4.out; rw [← HS2.out]; omega) (fun k k1 k2 => by
                        rw [← HS2.out] at k2
                        cases hs' : S' k
                        · rfl
                        · exfalso
                          rcases (HSET.out k).1 hs' with h1 | ⟨h1, h2⟩
                          · rw [HG.out.free HXP.out (fun ⟨i', h3, h4⟩ => by
                              rw [HL.out] at h4
                              have := prm_inj (c := cc) (show i' < L by omega) hil (h4.trans HP.out.symm)
                              omega) ⟨by show f ≤ k; omega, by show k < f + 2 ^ o; omega⟩] at h1
                            cases h1
                          · (unfold pLo at h1; unfold pHi at h2; simp only [if_true] at h1 h2; rw [show C - j = xb + 1 by omega, Nat.succ_mul] at h1; omega)))
                      have HNEW := Lib.hid (show ∀ k, Bud.more S' g e k = true ↔ S k = true ∨ (pLo true f s C (j + 1) ≤ k ∧ k < pHi true f s C (j + 1)) from fun k => by
                        rw [Bud.more_iff, HSET.out k, ← HS2.out, or_assoc]
                        refine or_congr_right ?_
                        (unfold pLo pHi; simp only [if_true]; rw [hg2, show C - j = xb + 1 by omega, show C - (j + 1) = xb by omega, Nat.succ_mul]; have := HCS.out; omega))
                      clear hy'2 hg2 hmul hC12 hxb2
                      go_wp2_with fail
                      refine CG.out.mono ?_; rintro e9 w6 ⟨rfl, ht9⟩
                      obtain ⟨B7, hk7⟩ := HK'.out.to ht9
                      have HK7 := Lib.hid hk7
                      clear hk7 ht9
                      go_wp2
                      go_roundw
                      case rel => exact ⟨j + 1, _, B7, by go_num, by omega, HK7.out, HNEW.out⟩
                      case measure => simp [cntI]; omega
                  · obtain rfl : j = C := by omega
                    have g1 : decide ((j : Int) < (j : Int)) = false := by simp
                    have hgs := HG.out.step (S' := S') HTK.out HXP.out (fun k => by
                      rw [HSET.out k]
                      have hcs := HCS.out
                      unfold pLo pHi inR
                      cases md
                      · show _ ∨ (f ≤ k ∧ k < f + j * s) ↔ _ ∨ (f ≤ k ∧ k < f + 2 ^ o)
                        rw [hcs]
                      · show _ ∨ (f + (j - j) * s ≤ k ∧ k < f + j * s) ↔ _ ∨ (f ≤ k ∧ k < f + 2 ^ o)
                        rw [hcs, Nat.sub_self, Nat.zero_mul, Nat.add_zero])
                    have HGS := Lib.hid hgs
                    clear hgs
                    go_wp2
                    go_roundw
                    case rel => exact ⟨i + 1, S', B', by go_num, by rw [HL.out]; omega, HK'.out, HGS.out.congr fun z => by
                      have hpp := HP.out
                      rw [HL.out]
                      constructor
                      · rintro (⟨i', h1, h2⟩ | h1)
                        · exact ⟨i', by omega, h2⟩
                        · exact ⟨i, by omega, by rw [hpp, h1]⟩
                      · rintro ⟨i', h1, h2⟩
                        by_cases h3 : i' = i
                        · subst h3; right; rw [← h2, hpp]
                        · exact .inl ⟨i', by omega, h2⟩⟩
                    case measure => simp [cntI]; omega
            · have hp : prm L cc i = k1 := by
                unfold prm
                rw [if_neg (by omega), ← hi72, ← hx12, ← hk12]
              have g7 : ((r7 : Int) == 0) = false := by simp; exact h7
              have g7' : (r7 == 0) = false := by simp; exact h7
              have hkL : k1 < L := hp ▸ prm_lt (by omega)
              have HP := Lib.hid hp
              clear hp h7 hi72 hx12 hk12 hx22 hk22 hr72
              go_wp2_with fail
              rw [hk1]
              obtain ⟨⟨f, o⟩, hx⟩ : ∃ x, T[k1]? = some x := ⟨_, List.getElem?_eq_getElem (by rw [HL.out]; exact hkL)⟩
              obtain ⟨x0, x1'⟩ := flat_pv hx
              obtain ⟨ga, rfl, q0⟩ := own_prs HK.out.wt _ _ x0
              obtain ⟨_, e9, q1⟩ := own_prs HK.out.wt _ _ x1'
              cases e9
              have hkL2 : (k1 : Int) < (L : Int) := by omega
              have HXP := Lib.hid hx
              obtain ⟨al1, al2, al3, al4⟩ := HTK.out.al _ (List.mem_of_getElem? hx)
              have AL1 := Lib.hid (show f % 2 ^ o = 0 from al1)
              have al2' : o ≤ 9 := al2
              have al3' : fi ≤ f := al3
              have AL4 := Lib.hid (show f + 2 ^ o ≤ fi + n from al4)
              have hfb : f ≤ 6000 := by have := AL4.out; omega
              clear hx x0 x1' al1 al2 al3 al4
              go_quiet (fail)
              have HKQ := Lib.hid (HK.out.drewN nq)
              clear HK q0 q1
              generalize wr.drewN nq = w5 at *
              obtain ⟨zz, hzz⟩ : ∃ zz : Int, A4 / 2 ^ i31 = zz := ⟨_, rfl⟩
              obtain ⟨y8, hy8⟩ : ∃ y8 : Int, A4 / 8 = y8 := ⟨_, rfl⟩
              have hmz : bits .and .i64 zz 1 = zz % 2 := mask64 zz 1 (by omega)
              have hm8 : bits .and .i64 y8 3 = y8 % 4 := mask64 y8 2 (by omega)
              obtain ⟨c3, hc3, hc32⟩ : ∃ x : Nat, y8 % 4 = (x : Int) ∧ x < 4 := ⟨(y8 % 4).toNat, by omega, by omega⟩
              rw [hc3] at hm8
              obtain ⟨c4, hc4, hc42⟩ : ∃ x : Nat, (1 : Int) + (c3 : Int) = (x : Int) ∧ x = 1 + c3 := ⟨1 + c3, by simp, rfl⟩
              obtain ⟨cm, hcm, hcm2⟩ : ∃ x : Nat, min (o : Int) (c4 : Int) = (x : Int) ∧ x ≤ o := ⟨min o c4, by omega, by omega⟩
              clear hc3 hc42
              go_upto_if 118 with (fail)
              go_cut [23] (CtP w5 o)
              case first =>
                rcases (show zz % 2 = 0 ∨ zz % 2 = 1 by omega) with h | h
                · rw [h] at hmz
                  go_wp2
                  go_meet
                  exact ⟨0, rfl, Nat.zero_le _, rfl⟩
                · rw [h] at hmz
                  go_wp2
                  go_meet
                  exact ⟨cm, rfl, hcm2, rfl⟩
              case rest =>
                clear hmz hm8 hcm hc4 hy8 hzz
                obtain ⟨ct, rfl, hct, rfl⟩ := hcut
                obtain ⟨e, he, he2⟩ : ∃ e : Nat, (o : Int) - (ct : Int) = (e : Int) ∧ e = o - ct := ⟨o - ct, by omega, rfl⟩
                obtain ⟨C, hC, hC2, hC3⟩ : ∃ C : Nat, (2 : Int) ^ ct = (C : Int) ∧ C = 2 ^ ct ∧ C ≤ 512 := ⟨2 ^ ct, by simp, rfl, by have := Bud.pow_le (show ct ≤ 9 by omega); omega⟩
                obtain ⟨s, hs, hs2, hs3⟩ : ∃ s : Nat, (2 : Int) ^ e = (s : Int) ∧ s = 2 ^ e ∧ s ≤ 512 := ⟨2 ^ e, by simp, rfl, by have := Bud.pow_le (show e ≤ 9 by omega); omega⟩
                have HCS := Lib.hid (show C * s = 2 ^ o from by rw [hC2, hs2, ← Nat.pow_add]; congr 1; omega)
                have HS2 := Lib.hid hs2
                have HC0 := Lib.hid (show 0 < C from by rw [hC2]; exact Nat.two_pow_pos _)
                have heo : e ≤ o := by omega
                clear he2 hC2 hs2
                go_wp2_with fail
                go_loopw [24] (PcR w w.heap.size fi n vw L0 (.slice (some ⟨ga, 0, none⟩) T.length cv) T S md f s C) (fun v _ => C - cntI v)
                case atStart => exact ⟨0, S, B, rfl, Nat.zero_le _, HKQ.out, fun k => by
                  unfold pLo pHi
                  cases md <;> simp <;> (intro h1 h2; omega)⟩
                case round =>
                  clear HKQ
                  obtain ⟨j, S', B', rfl, hj, hbk', hset⟩ := hrel
                  have HK' := Lib.hid hbk'
                  have HSET := Lib.hid hset
                  clear hbk' hset
                  by_cases hjC : j < C
                  · have g1 : decide ((j : Int) < (C : Int)) = true := by simp; exact hjC
                    have g1' : decide (j < C) = true := by simp; exact hjC
                    obtain ⟨C1, hC1, hC12⟩ : ∃ x : Nat, (C : Int) - 1 = (x : Int) ∧ x = C - 1 := ⟨C - 1, by omega, rfl⟩
                    obtain ⟨xb, hxb, hxb2⟩ : ∃ x : Nat, (C1 : Int) - (j : Int) = (x : Int) ∧ x = C - 1 - j := ⟨C1 - j, by omega, by omega⟩
                    cases md
                    · obtain ⟨y', hy', hy'2⟩ : ∃ x : Nat, (j : Int) * (s : Int) = (x : Int) ∧ x = j * s := ⟨j * s, by simp, rfl⟩
                      obtain ⟨g, hg, hg2⟩ : ∃ x : Nat, (f : Int) + (y' : Int) = (x : Int) ∧ x = f + j * s := ⟨f + y', by simp, by rw [hy'2]⟩
                      have hxC : j + 1 ≤ C := by omega
                      have hmul : j * s + s ≤ 2 ^ o := by
                        have := Nat.mul_le_mul_right s hxC
                        rw [Nat.succ_mul, HCS.out] at this
                        exact this
                      have hyb : y' ≤ 512 := by have := Bud.pow_le al2'; omega
                      have HGG := Lib.hid hg2
                      have HMU := Lib.hid hmul
                      have CG := Lib.hid (lgive_ok (f := g) (o := e) HK'.out.bd (by omega) (by
                        have h1 := Bud.mod_le AL1.out heo
                        rw [hg2, HS2.out, Nat.add_mod, h1, Nat.mul_mod_left]; simp) (by omega) (by have := AL4.out; rw [← HS2.out]; omega) (fun k k1 k2 => by
                        rw [← HS2.out] at k2
                        cases hs' : S' k
                        · rfl
                        · exfalso
                          rcases (HSET.out k).1 hs' with h1 | ⟨h1, h2⟩
                          · rw [HG.out.free HXP.out (fun ⟨i', h3, h4⟩ => by
                              rw [HL.out] at h4
                              have := prm_inj (c := cc) (show i' < L by omega) hil (h4.trans HP.out.symm)
                              omega) ⟨by show f ≤ k; omega, by show k < f + 2 ^ o; omega⟩] at h1
                            cases h1
                          · (unfold pLo at h1; unfold pHi at h2; simp at h1 h2; omega)))
                      have HNEW := Lib.hid (show ∀ k, Bud.more S' g e k = true ↔ S k = true ∨ (pLo false f s C (j + 1) ≤ k ∧ k < pHi false f s C (j + 1)) from fun k => by
                        rw [Bud.more_iff, HSET.out k, ← HS2.out, or_assoc]
                        refine or_congr_right ?_
                        (unfold pLo pHi; simp only [Bool.false_eq_true, if_false]; rw [hg2, Nat.succ_mul]; omega))
                      clear hy'2 hg2 hmul hC12 hxb2
                      go_wp2_with fail
                      refine CG.out.mono ?_; rintro e9 w6 ⟨rfl, ht9⟩
                      obtain ⟨B7, hk7⟩ := HK'.out.to ht9
                      have HK7 := Lib.hid hk7
                      clear hk7 ht9
                      go_wp2
                      go_roundw
                      case rel => exact ⟨j + 1, _, B7, by go_num, by omega, HK7.out, HNEW.out⟩
                      case measure => simp [cntI]; omega
                    · obtain ⟨y', hy', hy'2⟩ : ∃ x : Nat, (xb : Int) * (s : Int) = (x : Int) ∧ x = xb * s := ⟨xb * s, by simp, rfl⟩
                      obtain ⟨g, hg, hg2⟩ : ∃ x : Nat, (f : Int) + (y' : Int) = (x : Int) ∧ x = f + xb * s := ⟨f + y', by simp, by rw [hy'2]⟩
                      have hxC : xb + 1 ≤ C := by omega
                      have hmul : xb * s + s ≤ 2 ^ o := by
                        have := Nat.mul_le_mul_right s hxC
                        rw [Nat.succ_mul, HCS.out] at this
                        exact this
                      have hyb : y' ≤ 512 := by have := Bud.pow_le al2'; omega
                      have HGG := Lib.hid hg2
                      have HMU := Lib.hid hmul
                      have CG := Lib.hid (lgive_ok (f := g) (o := e) HK'.out.bd (by omega) (by
                        have h1 := Bud.mod_le AL1.out heo
                        rw [hg2, HS2.out, Nat.add_mod, h1, Nat.mul_mod_left]; simp) (by omega) (by have := AL4.out; rw [← HS2.out]; omega) (fun k k1 k2 => by
                        rw [← HS2.out] at k2
                        cases hs' : S' k
                        · rfl
                        · exfalso
                          rcases (HSET.out k).1 hs' with h1 | ⟨h1, h2⟩
                          · rw [HG.out.free HXP.out (fun ⟨i', h3, h4⟩ => by
                              rw [HL.out] at h4
                              have := prm_inj (c := cc) (show i' < L by omega) hil (h4.trans HP.out.symm)
                              omega) ⟨by show f ≤ k; omega, by show k < f + 2 ^ o; omega⟩] at h1
                            cases h1
                          · (unfold pLo at h1; unfold pHi at h2; simp only [if_true] at h1 h2; rw [show C - j = xb + 1 by omega, Nat.succ_mul] at h1; omega)))
                      have HNEW := Lib.hid (show ∀ k, Bud.more S' g e k = true ↔ S k = true ∨ (pLo true f s C (j + 1) ≤ k ∧ k < pHi true f s C (j + 1)) from fun k => by
                        rw [Bud.more_iff, HSET.out k, ← HS2.out, or_assoc]
                        refine or_congr_right ?_
                        (unfold pLo pHi; simp only [if_true]; rw [hg2, show C - j = xb + 1 by omega, show C - (j + 1) = xb by omega, Nat.succ_mul]; have := HCS.out; omega))
                      clear hy'2 hg2 hmul hC12 hxb2
                      go_wp2_with fail
                      refine CG.out.mono ?_; rintro e9 w6 ⟨rfl, ht9⟩
                      obtain ⟨B7, hk7⟩ := HK'.out.to ht9
                      have HK7 := Lib.hid hk7
                      clear hk7 ht9
                      go_wp2
                      go_roundw
                      case rel => exact ⟨j + 1, _, B7, by go_num, by omega, HK7.out, HNEW.out⟩
                      case measure => simp [cntI]; omega
                  · obtain rfl : j = C := by omega
                    have g1 : decide ((j : Int) < (j : Int)) = false := by simp
                    have hgs := HG.out.step (S' := S') HTK.out HXP.out (fun k => by
                      rw [HSET.out k]
                      have hcs := HCS.out
                      unfold pLo pHi inR
                      cases md
                      · show _ ∨ (f ≤ k ∧ k < f + j * s) ↔ _ ∨ (f ≤ k ∧ k < f + 2 ^ o)
                        rw [hcs]
                      · show _ ∨ (f + (j - j) * s ≤ k ∧ k < f + j * s) ↔ _ ∨ (f ≤ k ∧ k < f + 2 ^ o)
                        rw [hcs, Nat.sub_self, Nat.zero_mul, Nat.add_zero])
                    have HGS := Lib.hid hgs
                    clear hgs
                    go_wp2
                    go_roundw
                    case rel => exact ⟨i + 1, S', B', by go_num, by rw [HL.out]; omega, HK'.out, HGS.out.congr fun z => by
                      have hpp := HP.out
                      rw [HL.out]
                      constructor
                      · rintro (⟨i', h1, h2⟩ | h1)
                        · exact ⟨i', by omega, h2⟩
                        · exact ⟨i, by omega, by rw [hpp, h1]⟩
                      · rintro ⟨i', h1, h2⟩
                        by_cases h3 : i' = i
                        · subst h3; right; rw [← h2, hpp]
                        · exact .inl ⟨i', by omega, h2⟩⟩
                    case measure => simp [cntI]; omega
          · have g0 : decide ((i : Int) < (L : Int)) = false := by simp; omega
            have g0' : decide (i < L) = false := by simp; omega
            have hS : S = seg fi n := HG.out.all fun j hj => by
              rw [HL.out] at hj ⊢
              obtain ⟨i', h1, h2⟩ := prm_all (c := cc) hj
              exact ⟨i', by omega, h2⟩
            subst hS
            obtain ⟨Aw, cw, rfl, _⟩ := own_sl HK.out.ww
            go_wp2_with fail
            refine (told_any _).mono ?_; rintro e w7 ⟨rfl, hb7⟩
            have HK7 := Lib.hid (HK.out.below hb7)
            have CF := lfree HK7.out.bd
            rw [show cntS (seg fi n) fi n = n from cntS_all fun k k1 k2 => seg_iff.2 ⟨k1, k2⟩] at CF
            clear hb7 HK
            go_wp2_with fail
            refine CF.mono ?_; rintro e w8 ⟨rfl, rfl⟩
            clear CF
            go_wp2_with fail
            refine (lruns HK7.out.bd).mono ?_; rintro e w8 ⟨v8, us, rfl, hus, hown8, hb8⟩
            obtain rfl := hus.unique HL0.out
            have HK8 := Lib.hid (HK7.out.below hb8)
            obtain ⟨A8, c8, rfl, hc8⟩ := own_sl hown8
            have CR := runs_same A8 Aw c8 cw us w8 hc8 (own_prs HK8.out.ww) (by
              have h1 := HL0.out.sum (a := fi) (n := n) HK8.out.bd.rng
              have h2 := sumR_len us
              have h3 := cntS_le (seg fi n) fi n
              omega) (fun ⟨f, o⟩ hx => by
              obtain ⟨m1, m2, m3⟩ := HK8.out.bd.mx ((HL0.out.2 f o).1 hx)
              have := Bud.pow_pos o
              exact ⟨by show f ≤ 2097152; omega, m3⟩)
            clear hus hown8 hb8 hc8 HK7
            go_wp2_with fail
            refine CR.mono ?_; rintro e w9 ⟨rfl, q9, rfl⟩
            have HB9 := Lib.hid (below_drewN HK8.out.be q9)
            clear CR
            go_wp2
            go_ret
            exact ⟨rfl, HB9.out⟩
end Go.Proofs.Ytmmjkebhcihjlaa
