/- The walk of the statement RmapMoves: it returns true. -/
import Derived.Test.YtdnfjpelhiniaaaRmm
import Derived.StillTailTactics
namespace Go.Proofs.Ytdnfjpelhiniaaa
open Go.RowKit Mf

def Mv1 (w : World) (cm ga : Nat) (v : Value) (wr : World) : Prop := ∃ (i : Nat) (u : Int → Plc → Bool) (B : Nat → Prop) (at_ : Plc → Option Int), v = .int .i64 i ∧ i ≤ 60 ∧ Mv w wr cm ga (2 * i) i u B at_ ∧ MvI u at_

/-- The rows. -/
def Mv2 (w : World) (cm ga N M : Nat) (u : Int → Plc → Bool) (B : Nat → Prop) (at_ : Plc → Option Int) (vf : Value) (fs : List Int) (vn vi : Value) (wr : World) : Prop := ∃ (j : Nat) (L : List Plc), vi = .int .i64 j ∧ vn = .int .i64 (L.length : Nat) ∧ j ≤ fs.length ∧ MvL at_ fs j L ∧ Mv w wr cm ga N M u B at_ ∧ ∃ b, IRow wr b vf fs
def Mv3 (w : World) (cm ga N M : Nat) (u : Int → Plc → Bool) (B : Nat → Prop) (at_ : Plc → Option Int) (vf : Value) (fs : List Int) (vl : Value) (ts : List Plc) (vk : Value) (wr : World) : Prop := ∃ k : Nat, vk = .int .i64 k ∧ k ≤ ts.length ∧ Mv w wr cm ga N M u B at_ ∧ (∃ b, IRow wr b vf fs) ∧ ∃ b, PRow wr b vl ts

set_option maxRecDepth 100000 in
set_option maxHeartbeats 8000000 in
theorem rmapMoves_walk (A : Option Addr) (m c : Nat) (xs : List Value) (w : World) (hr : Reads w w.heap.size 4 A m xs) (hx : CellsR opK xs) :
    Calls Try.prog 5 #[.slice A m c] w fun e w' => e = .returned (.bool true) ∧ Below w.heap.size w w' := by
  obtain ⟨O, hO⟩ := ops_fn hr.1 hx
  have HR := Lib.hid hr
  have HO := Lib.hid hO
  have hmm := @run_makeMap Try.prog
  clear hr hx hO
  go_enter Try.func5, Try.ntmps5
  go_wp2_with fail
  refine (lnew w).mono ?_; rintro e w1 ⟨rfl, ⟨B1, h1⟩, hb1⟩
  have HM := Lib.hid (show Mv w (w1.alloc (.map #[] 0)) (w.heap.size + 1) w1.heap.size 0 0 _ B1 (fun _ => none) from
    ⟨h1.below ((Below.refl _ _).alloc (Nat.le_refl _) _), MapG.new w1 _ _ plcC frC, fun h => by have := (h1.lt h).2; omega, hb1.size, hb1.alloc hb1.size _⟩)
  clear h1 hb1
  go_wp2_with fail
  generalize hw2 : w1.alloc (.map #[] 0) = w2 at *
  clear hw2
  generalize w1.heap.size = ga at *
  generalize w.heap.size + 1 = cm at *
  clear hmm
  go_loopw [5] (Mv1 w cm ga) (fun v _ => 60 - cntI v)
  case atStart => exact ⟨0, _, _, _, rfl, Nat.zero_le _, HM.out, MvI.zero⟩
  case round =>
    clear HM
    obtain ⟨i, u, B, at_, rfl, hi, hM, hI⟩ := hrel
    have HM := Lib.hid hM
    have HI := Lib.hid hI
    clear hM hI
    by_cases hlt : i < m ∧ i < 60
    · obtain ⟨l1, l2⟩ := hlt
      have him2 : (i : Int) < (m : Int) := by omega
      obtain ⟨ad, rfl, hadb, c0, c1, c2, c3⟩ := op_cells (HR.out.below HM.out.be) HO.out l1
      have hm1 : bits .and .i64 (O i).p.1.1 3 = (O i).p.1.1 % 4 := mask64 _ 2 (by omega)
      have hm2 : bits .and .u64 (O i).p.1.2 3 = (O i).p.1.2 % 4 := mask3u _ (u64_bd (O i).p.2.2)
      have hm3 : bits .and .i64 (O i).fr 7 = (O i).fr % 8 := mask64 _ 3 (by omega)
      obtain ⟨p, hp1, hp2⟩ : ∃ p : Plc, 1 + (O i).p.1.1 % 4 = p.1.1 ∧ (O i).p.1.2 % 4 = p.1.2 := ⟨⟨(1 + (O i).p.1.1 % 4, (O i).p.1.2 % 4), i64_wf _ (by omega), u64_wf4 _⟩, rfl, rfl⟩
      have hp3 : 1 ≤ p.1.1 ∧ p.1.1 ≤ 4 := by omega
      obtain ⟨f, hf, hf2⟩ : ∃ f : Int, (O i).fr % 8 = f ∧ 0 ≤ f ∧ f < 8 := ⟨_, rfl, by omega⟩
      have hwf := i64_wf f (by omega)
      obtain ⟨_, e2, e3⟩ := op_at ((HR.out.below HM.out.be).alloc HM.out.be.size (.cells #[.int .i64 0, .int .u64 0] 31)) HO.out l1
      go_wp2_with fail
      go_region
      have HBL := Lib.hid (show Blk (wr.alloc (.cells #[.int .i64 p.1.1, .int .u64 p.1.2] 31)).drew wr.heap.size 31 #[.int .i64 p.1.1, .int .u64 p.1.2] ∧ ¬ B wr.heap.size from ⟨(Blk.new _ _ _).drew, fun h => by have := (HM.out.mp.lt h).2; omega⟩)
      replace HM := Lib.hid (HM.out.fresh (((Below.refl _ wr).alloc (Nat.le_refl _) (.cells #[.int .i64 p.1.1, .int .u64 p.1.2] 31)).drew))
      generalize (wr.alloc (.cells #[.int .i64 p.1.1, .int .u64 p.1.2] 31)).drew = w2 at *
      generalize wr.heap.size = gp at *
      clear c0 c1 c2 c3 e2 e3
      obtain ⟨e1, _, _⟩ := op_at (HR.out.below HM.out.be) HO.out l1
      have g0 := (HBL.out.1.cell 0).trans rfl
      have g1 := (HBL.out.1.cell 1).trans rfl
      have hlk := HM.out.look p
      clear hp1 hp2 hp3
      cases hat : at_ p with
      | none =>
        rw [hat] at hlk
        have HD := Lib.hid (HI.out.none_ hat)
        clear hat
        go_wp2_with fail
        clear g0 g1 hlk e1
        refine (ladd HM.out.mp f hwf p (by omega) (by have := HM.out.be.size; omega)).mono ?_; rintro e w4 ⟨rfl, hto⟩
        rw [HD.out.addE hf2.1]
        obtain ⟨B3, hm4, hk4⟩ := HM.out.to hto
        obtain ⟨b4, nb4⟩ := hk4 _ _ _ HBL.out.1 HBL.out.2
        have HI4 := Lib.hid (HD.out.add HI.out.2 hf2)
        have g0 := (b4.cell 0).trans rfl
        have g1 := (b4.cell 1).trans rfl
        obtain ⟨w5, hr5, hm5⟩ := hm4.store (by unfold maxLen; omega) p f
        have HM5 := Lib.hid hm5
        clear hto hm4 hk4 b4 nb4 hm5 HM HBL HD HI
        go_wp2
        exact ⟨⟨i + 1, _, B3, _, by go_num, by omega, HM5.out, HI4.out⟩, by simp [cntI]; omega⟩
      | some o =>
        rw [hat] at hlk
        have HAT := Lib.hid hat
        have hwo := i64_wf o (by have := HI.out.2 p o hat; omega)
        clear hat
        go_wp2_with fail
        refine (ldrop HM.out.mp o hwo p).mono ?_; rintro e w3 ⟨rfl, hto⟩
        rw [HI.out.dropE HAT.out]
        obtain ⟨B2, hm4, hk4⟩ := HM.out.to hto
        have hbl := hk4 _ _ _ HBL.out.1 HBL.out.2
        have HD := Lib.hid (HI.out.drop HAT.out)
        replace HBL := Lib.hid hbl
        replace HM := Lib.hid hm4
        clear hto hm4 hk4 hbl g0 g1 hlk e1 HAT
        have g0 := (HBL.out.1.cell 0).trans rfl
        have g1 := (HBL.out.1.cell 1).trans rfl
        go_wp2_with fail
        clear g0 g1
        refine (ladd HM.out.mp f hwf p (by omega) (by have := HM.out.be.size; omega)).mono ?_; rintro e w4 ⟨rfl, hto⟩
        rw [HD.out.addE hf2.1]
        obtain ⟨B3, hm4, hk4⟩ := HM.out.to hto
        obtain ⟨b4, nb4⟩ := hk4 _ _ _ HBL.out.1 HBL.out.2
        have HI4 := Lib.hid (HD.out.add HI.out.2 hf2)
        have g0 := (b4.cell 0).trans rfl
        have g1 := (b4.cell 1).trans rfl
        obtain ⟨w5, hr5, hm5⟩ := hm4.store (by unfold maxLen; omega) p f
        have HM5 := Lib.hid hm5
        clear hto hm4 hk4 b4 nb4 hm5 HM HBL HD HI
        go_wp2
        exact ⟨⟨i + 1, _, B3, _, by go_num, by omega, HM5.out, HI4.out⟩, by simp [cntI]; omega⟩
    · have hlt' : m ≤ i ∨ (i < m ∧ 60 ≤ i) := by omega
      clear hlt
      rcases hlt' with h | ⟨h1, h2⟩
      · go_wp2_with fail
        refine (lframes HM.out.mp (by omega)).mono ?_; rintro e w2 ⟨v, fs, rfl, hfs, hrw, hb⟩
        obtain ⟨Af, cf, rfl⟩ := hrw.form
        replace HM := Lib.hid (HM.out.fresh hb)
        have HF := Lib.hid hfs
        obtain ⟨n, hn⟩ : ∃ n, fs.length = n := ⟨_, rfl⟩
        rw [hn] at hrw
        have hnb : n ≤ 120 := by have := HM.out.mp.flen HF.out; omega
        have HN := Lib.hid hn
        have HRW := Lib.hid (show ∃ b, IRow w2 b (.slice Af n cf) fs from ⟨_, hrw⟩)
        rw [hn]
        clear hfs hrw hb hn
        go_wp2_with fail
        go_loopw [10, 12] (Mv2 w cm ga (2 * i) i u B at_ (.slice Af n cf) fs) (fun _ v _ => n - cntI v)
        case atStart => exact ⟨0, [], rfl, rfl, Nat.zero_le _, MvL.zero _ _, HM.out, HRW.out⟩
        case round =>
          clear HM HRW
          obtain ⟨j, L, rfl, rfl, hj, hL, hM, hR⟩ := hrel
          have HL := Lib.hid hL
          have HM := Lib.hid hM
          have HRW := Lib.hid hR
          have hll := hL.le hM
          obtain ⟨l, hl⟩ : ∃ l, L.length = l := ⟨_, rfl⟩
          rw [hl] at hll ⊢
          have HLL := Lib.hid hl
          rw [HN.out] at hj
          clear hL hM hR hl
          by_cases hjn : j < n
          · have g1 : decide ((j : Int) < (n : Int)) = true := by simp; exact hjn
            have g1' : decide (j < n) = true := by simp; exact hjn
            have hjn2 : (j : Int) < (n : Int) := by omega
            obtain ⟨f, hf⟩ : ∃ f, fs[j]? = some f := ⟨_, List.getElem?_eq_getElem (by rw [HN.out]; exact hjn)⟩
            obtain ⟨b0, hrw⟩ := HRW.out
            obtain ⟨g, rfl, c0⟩ := IRow.cell hrw hf
            have hwf : (Lit.int .i64 f).wf = true := by
              obtain ⟨p, hp⟩ := (HF.out.2 f).1 (List.mem_of_getElem? hf)
              exact i64_wf f (by have := HI.out.2 p f ((HI.out.1 f p).1 hp); omega)
            have HFJ := Lib.hid hf
            clear hrw hf
            go_wp2_with fail
            refine (llist HM.out.mp (by omega) f hwf).mono ?_; rintro e w3 ⟨v, ts, rfl, hts, hrw, hb⟩
            obtain ⟨Av, cv, rfl⟩ := hrw.form
            have HTS := Lib.hid hts
            replace HM := Lib.hid (HM.out.fresh hb)
            have hL2 := HL.out.step HI.out HF.out.1 HFJ.out hts
            have hll2 := hL2.le HM.out
            rw [List.length_append, HLL.out] at hll2
            obtain ⟨T, hT⟩ : ∃ T, ts.length = T := ⟨_, rfl⟩
            rw [hT] at hrw hll2
            have HT := Lib.hid hT
            have HL2 := Lib.hid (show MvL at_ fs (j + 1) (L ++ ts) ∧ (L ++ ts).length = l + T from ⟨hL2, by rw [List.length_append, HLL.out, hT]⟩)
            have HRL := Lib.hid (show ∃ b, PRow w3 b (.slice Av T cv) ts from ⟨_, hrw⟩)
            obtain ⟨b0, hrw2⟩ := HRW.out
            replace HRW := Lib.hid (show ∃ b, IRow w3 b (.slice (some ⟨g, 0, none⟩) n cf) fs from ⟨_, own_below hrw2 hb⟩)
            rw [hT]
            clear hts hrw hrw2 hb hL2 hT c0 HL
            go_wp2_with fail
            go_loopw [14] (Mv3 w cm ga (2 * i) i u B at_ (.slice (some ⟨g, 0, none⟩) n cf) fs (.slice Av T cv) ts) (fun v _ => T - cntI v)
            case atStart => exact ⟨0, rfl, Nat.zero_le _, HM.out, HRW.out, HRL.out⟩
            case round =>
              clear HM HRW HRL
              obtain ⟨k, rfl, hk, hM, hR, hP⟩ := hrel
              have HM := Lib.hid hM
              have HRW := Lib.hid hR
              have HRL := Lib.hid hP
              rw [HT.out] at hk
              clear hM hR hP
              by_cases hkT : k < T
              · have g2 : decide ((k : Int) < (T : Int)) = true := by simp; exact hkT
                have g2' : decide (k < T) = true := by simp; exact hkT
                have hkT2 : (k : Int) < (T : Int) := by omega
                obtain ⟨b1, hr1⟩ := HRW.out
                obtain ⟨_, e, c0⟩ := IRow.cell hr1 HFJ.out
                cases e
                obtain ⟨b2, hr2⟩ := HRL.out
                obtain ⟨p, hp⟩ : ∃ p, ts[k]? = some p := ⟨_, List.getElem?_eq_getElem (by rw [HT.out]; exact hkT)⟩
                obtain ⟨g', rfl, d0, d1⟩ := PRow.cells hr2 hp
                have hat : at_ p = some f := (HI.out.1 f p).1 ((HTS.out.2 p).1 (List.mem_of_getElem? hp))
                have hlk : ∀ q, (Instr.lookup 47 (.map (some ga)) (.agg #[.int .i64 p.1.1, .int .u64 p.1.2]) false).run Try.prog (wr.drewN q) = .ok (.int .i64 f) (wr.drewN q) := fun q => (HM.out.drewN q).look1 hat
                clear hr1 hr2 hp hat
                go_wp2_with fail
                go_quiet (fail)
                replace HM := Lib.hid (HM.out.drewN nq)
                obtain ⟨b1, hr1⟩ := HRW.out
                obtain ⟨b2, hr2⟩ := HRL.out
                replace HRW := Lib.hid (own_below hr1 (below_drewN (Below.refl _ _) nq))
                replace HRL := Lib.hid (own_below hr2 (below_drewN (Below.refl _ _) nq))
                clear hr1 hr2 hlk c0 d0 d1
                go_wp2
                exact ⟨⟨k + 1, by go_num, by rw [HT.out]; omega, HM.out, ⟨_, HRW.out⟩, ⟨_, HRL.out⟩⟩, by simp [cntI]; omega⟩
              · obtain rfl : k = T := by omega
                have g2 : decide ((k : Int) < (k : Int)) = false := by simp
                go_wp2_with fail
                exact ⟨⟨j + 1, L ++ ts, by go_num, by rw [HL2.out.2]; go_num, by rw [HN.out]; omega, HL2.out.1, HM.out, HRW.out⟩, by simp [cntI]; omega⟩
          · obtain rfl : j = n := by omega
            have g1 : decide ((j : Int) < (j : Int)) = false := by simp
            go_wp2_with fail
            refine (told_any _).mono ?_; rintro e w7 ⟨rfl, hb⟩
            replace HM := Lib.hid (HM.out.fresh hb)
            clear hb HRW
            obtain ⟨ks, hk1, hk2, _, hk3⟩ := HM.out.am.keys keyedP (t := 47) Try.underlying47
            have hall := MvL.all (by rw [HN.out]; exact HL.out) HI.out HF.out hk1 hk2
            rw [HLL.out] at hall
            rw [← hall] at hk3
            have g3 : ((l : Int) == (l : Int)) = true := by simp
            clear hk1 hk2 hall
            go_wp2_with fail
            refine (llist HM.out.mp (by omega) 9 (i64_wf 9 (by decide))).mono ?_; rintro e w8 ⟨v, ts, rfl, hts, hrw, hb⟩
            obtain rfl := hts.unique (show PlacesOf (u 9) [] from ⟨List.Pairwise.nil, fun p => ⟨fun h => (by cases h), fun h => by have := HI.out.2 p 9 ((HI.out.1 9 p).1 h); omega⟩⟩)
            replace HM := Lib.hid (HM.out.fresh hb)
            have HRL := Lib.hid hrw
            clear hts hrw hb hk3
            go_wp2_with fail
            refine (psame (xs := []) (B1 := w8.heap.size) (World.ownsRow_nil w8 w8.heap.size _ _) HRL.out (by decide)).mono ?_; rintro e wn ⟨rfl, q, rfl⟩
            rw [show decide (([] : List Plc) = []) = true from by simp]
            replace HM := Lib.hid (HM.out.drewN q)
            clear HRL
            generalize w8.drewN q = w10 at *
            go_wp2
            go_ret
            exact ⟨rfl, HM.out.be⟩
      · go_wp2_with fail
        refine (lframes HM.out.mp (by omega)).mono ?_; rintro e w2 ⟨v, fs, rfl, hfs, hrw, hb⟩
        obtain ⟨Af, cf, rfl⟩ := hrw.form
        replace HM := Lib.hid (HM.out.fresh hb)
        have HF := Lib.hid hfs
        obtain ⟨n, hn⟩ : ∃ n, fs.length = n := ⟨_, rfl⟩
        rw [hn] at hrw
        have hnb : n ≤ 120 := by have := HM.out.mp.flen HF.out; omega
        have HN := Lib.hid hn
        have HRW := Lib.hid (show ∃ b, IRow w2 b (.slice Af n cf) fs from ⟨_, hrw⟩)
        rw [hn]
        clear hfs hrw hb hn
        go_wp2_with fail
        go_loopw [10, 12] (Mv2 w cm ga (2 * i) i u B at_ (.slice Af n cf) fs) (fun _ v _ => n - cntI v)
        case atStart => exact ⟨0, [], rfl, rfl, Nat.zero_le _, MvL.zero _ _, HM.out, HRW.out⟩
        case round =>
          clear HM HRW
          obtain ⟨j, L, rfl, rfl, hj, hL, hM, hR⟩ := hrel
          have HL := Lib.hid hL
          have HM := Lib.hid hM
          have HRW := Lib.hid hR
          have hll := hL.le hM
          obtain ⟨l, hl⟩ : ∃ l, L.length = l := ⟨_, rfl⟩
          rw [hl] at hll ⊢
          have HLL := Lib.hid hl
          rw [HN.out] at hj
          clear hL hM hR hl
          by_cases hjn : j < n
          · have g1 : decide ((j : Int) < (n : Int)) = true := by simp; exact hjn
            have g1' : decide (j < n) = true := by simp; exact hjn
            have hjn2 : (j : Int) < (n : Int) := by omega
            obtain ⟨f, hf⟩ : ∃ f, fs[j]? = some f := ⟨_, List.getElem?_eq_getElem (by rw [HN.out]; exact hjn)⟩
            obtain ⟨b0, hrw⟩ := HRW.out
            obtain ⟨g, rfl, c0⟩ := IRow.cell hrw hf
            have hwf : (Lit.int .i64 f).wf = true := by
              obtain ⟨p, hp⟩ := (HF.out.2 f).1 (List.mem_of_getElem? hf)
              exact i64_wf f (by have := HI.out.2 p f ((HI.out.1 f p).1 hp); omega)
            have HFJ := Lib.hid hf
            clear hrw hf
            go_wp2_with fail
            refine (llist HM.out.mp (by omega) f hwf).mono ?_; rintro e w3 ⟨v, ts, rfl, hts, hrw, hb⟩
            obtain ⟨Av, cv, rfl⟩ := hrw.form
            have HTS := Lib.hid hts
            replace HM := Lib.hid (HM.out.fresh hb)
            have hL2 := HL.out.step HI.out HF.out.1 HFJ.out hts
            have hll2 := hL2.le HM.out
            rw [List.length_append, HLL.out] at hll2
            obtain ⟨T, hT⟩ : ∃ T, ts.length = T := ⟨_, rfl⟩
            rw [hT] at hrw hll2
            have HT := Lib.hid hT
            have HL2 := Lib.hid (show MvL at_ fs (j + 1) (L ++ ts) ∧ (L ++ ts).length = l + T from ⟨hL2, by rw [List.length_append, HLL.out, hT]⟩)
            have HRL := Lib.hid (show ∃ b, PRow w3 b (.slice Av T cv) ts from ⟨_, hrw⟩)
            obtain ⟨b0, hrw2⟩ := HRW.out
            replace HRW := Lib.hid (show ∃ b, IRow w3 b (.slice (some ⟨g, 0, none⟩) n cf) fs from ⟨_, own_below hrw2 hb⟩)
            rw [hT]
            clear hts hrw hrw2 hb hL2 hT c0 HL
            go_wp2_with fail
            go_loopw [14] (Mv3 w cm ga (2 * i) i u B at_ (.slice (some ⟨g, 0, none⟩) n cf) fs (.slice Av T cv) ts) (fun v _ => T - cntI v)
            case atStart => exact ⟨0, rfl, Nat.zero_le _, HM.out, HRW.out, HRL.out⟩
            case round =>
              clear HM HRW HRL
              obtain ⟨k, rfl, hk, hM, hR, hP⟩ := hrel
              have HM := Lib.hid hM
              have HRW := Lib.hid hR
              have HRL := Lib.hid hP
              rw [HT.out] at hk
              clear hM hR hP
              by_cases hkT : k < T
              · have g2 : decide ((k : Int) < (T : Int)) = true := by simp; exact hkT
                have g2' : decide (k < T) = true := by simp; exact hkT
                have hkT2 : (k : Int) < (T : Int) := by omega
                obtain ⟨b1, hr1⟩ := HRW.out
                obtain ⟨_, e, c0⟩ := IRow.cell hr1 HFJ.out
                cases e
                obtain ⟨b2, hr2⟩ := HRL.out
                obtain ⟨p, hp⟩ : ∃ p, ts[k]? = some p := ⟨_, List.getElem?_eq_getElem (by rw [HT.out]; exact hkT)⟩
                obtain ⟨g', rfl, d0, d1⟩ := PRow.cells hr2 hp
                have hat : at_ p = some f := (HI.out.1 f p).1 ((HTS.out.2 p).1 (List.mem_of_getElem? hp))
                have hlk : ∀ q, (Instr.lookup 47 (.map (some ga)) (.agg #[.int .i64 p.1.1, .int .u64 p.1.2]) false).run Try.prog (wr.drewN q) = .ok (.int .i64 f) (wr.drewN q) := fun q => (HM.out.drewN q).look1 hat
                clear hr1 hr2 hp hat
                go_wp2_with fail
                go_quiet (fail)
                replace HM := Lib.hid (HM.out.drewN nq)
                obtain ⟨b1, hr1⟩ := HRW.out
                obtain ⟨b2, hr2⟩ := HRL.out
                replace HRW := Lib.hid (own_below hr1 (below_drewN (Below.refl _ _) nq))
                replace HRL := Lib.hid (own_below hr2 (below_drewN (Below.refl _ _) nq))
                clear hr1 hr2 hlk c0 d0 d1
                go_wp2
                exact ⟨⟨k + 1, by go_num, by rw [HT.out]; omega, HM.out, ⟨_, HRW.out⟩, ⟨_, HRL.out⟩⟩, by simp [cntI]; omega⟩
              · obtain rfl : k = T := by omega
                have g2 : decide ((k : Int) < (k : Int)) = false := by simp
                go_wp2_with fail
                exact ⟨⟨j + 1, L ++ ts, by go_num, by rw [HL2.out.2]; go_num, by rw [HN.out]; omega, HL2.out.1, HM.out, HRW.out⟩, by simp [cntI]; omega⟩
          · obtain rfl : j = n := by omega
            have g1 : decide ((j : Int) < (j : Int)) = false := by simp
            go_wp2_with fail
            refine (told_any _).mono ?_; rintro e w7 ⟨rfl, hb⟩
            replace HM := Lib.hid (HM.out.fresh hb)
            clear hb HRW
            obtain ⟨ks, hk1, hk2, _, hk3⟩ := HM.out.am.keys keyedP (t := 47) Try.underlying47
            have hall := MvL.all (by rw [HN.out]; exact HL.out) HI.out HF.out hk1 hk2
            rw [HLL.out] at hall
            rw [← hall] at hk3
            have g3 : ((l : Int) == (l : Int)) = true := by simp
            clear hk1 hk2 hall
            go_wp2_with fail
            refine (llist HM.out.mp (by omega) 9 (i64_wf 9 (by decide))).mono ?_; rintro e w8 ⟨v, ts, rfl, hts, hrw, hb⟩
            obtain rfl := hts.unique (show PlacesOf (u 9) [] from ⟨List.Pairwise.nil, fun p => ⟨fun h => (by cases h), fun h => by have := HI.out.2 p 9 ((HI.out.1 9 p).1 h); omega⟩⟩)
            replace HM := Lib.hid (HM.out.fresh hb)
            have HRL := Lib.hid hrw
            clear hts hrw hb hk3
            go_wp2_with fail
            refine (psame (xs := []) (B1 := w8.heap.size) (World.ownsRow_nil w8 w8.heap.size _ _) HRL.out (by decide)).mono ?_; rintro e wn ⟨rfl, q, rfl⟩
            rw [show decide (([] : List Plc) = []) = true from by simp]
            replace HM := Lib.hid (HM.out.drewN q)
            clear HRL
            generalize w8.drewN q = w10 at *
            go_wp2
            go_ret
            exact ⟨rfl, HM.out.be⟩
end Go.Proofs.Ytdnfjpelhiniaaa
