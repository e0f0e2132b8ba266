import Derived.Test.YtjofegjiakjjhaaDoorMSsh
import Derived.Test.YtjofegjiakjjhaaDoorMSsa
import Derived.Test.YtjofegjiakjjhaaDoorMSsd
/- Script, plain law: what told asks. -/
namespace Go.Proofs.YtjofegjiakjjhaaDoor
open Go.Lib

theorem dD0 : decDigits 0 = [48] := decD_small (by decide)
theorem dD1 : decDigits 1 = [49] := decD_small (by decide)
theorem dD2 : decDigits 2 = [50] := decD_small (by decide)
theorem dD8 : decDigits 8 = [56] := decD_small (by decide)
theorem hD0 : hexD 0 = [48] := hexD_small (by decide)
theorem hD7 : hexD 7 = [55] := hexD_small (by decide)
theorem hD8 : hexD 8 = [56] := hexD_small (by decide)
theorem hD255 : hexD 255 = [102, 102] := by
  rw [hexD_big (by decide), show 255 / 16 = 15 from rfl, hexD_small (by decide)]; rfl
theorem hD4096 : hexD 4096 = [49, 48, 48, 48] := by
  rw [hexD_big (by decide), show 4096 / 16 = 256 from rfl, hexD_big (by decide), show 256 / 16 = 16 from rfl, hexD_big (by decide), show 16 / 16 = 1 from rfl, hexD_small (by decide)]; rfl
theorem wf0 (s : St) (h1 : 0 ≤ s.addr) (h2 : s.addr < 18446744073709551616) (h3 : 0 ≤ s.value) (h4 : s.value < 18446744073709551616) : s.wf := ⟨h1, h2, h3, h4⟩
def tS1 : St := { kind := 2, guest := 1, addr := 8, size := 8, value := 255 }
def tL1 : Bs := [115, 116, 111, 114, 101, 32, 49, 32, 48, 120, 56, 32, 56, 32, 48, 120, 102, 102, 32, 48]
theorem tT1 : TextS tS1 = (tL1, 0) := by
  refine textS_of ⟨2, [115, 116, 111, 114, 101], [.g, .x, .s, .v, .w], [[49], [48, 120, 56], [56], [48, 120, 102, 102], [48]], rfl, by decide, by decide, rfl, ?_, ⟨rfl, rfl, rfl, rfl, rfl, rfl, rfl, rfl, rfl, rfl, rfl⟩, .inr rfl, by decide, by decide⟩
  have e0 : ∀ (n : Int) (k : Nat) (w : Bs), n = k → decDigits k = w → k < 2147483648 → decW n = some w := fun n k w h1 h2 h3 => by
    subst h1; unfold decW; rw [if_pos ⟨by omega, by omega⟩, Int.toNat_natCast, h2]
  simp only [wrds, wrd, tS1]
  rw [e0 1 1 _ rfl dD1 (by decide), e0 8 8 _ rfl dD8 (by decide), e0 0 0 _ rfl dD0 (by decide), show hexW (8 : Int).toNat = [48, 120, 56] from by show hexW 8 = _; unfold hexW; rw [hD8], show hexW (255 : Int).toNat = [48, 120, 102, 102] from by show hexW 255 = _; unfold hexW; rw [hD255]]
def tS2 : St := { kind := 5, guest := 2, what := 3, asid := 1, addr := 4096 }
def tL2 : Bs := [102, 108, 117, 115, 104, 32, 50, 32, 118, 97, 32, 49, 32, 48, 120, 49, 48, 48, 48]
theorem tI2 : IsT tS2 tL2 := by
  refine ⟨5, [102, 108, 117, 115, 104], [.g, .l, .a, .x], [[50], [118, 97], [49], [48, 120, 49, 48, 48, 48]], rfl, by decide, by decide, rfl, ?_, ⟨rfl, rfl, rfl, rfl, rfl, rfl, rfl, rfl, rfl, rfl, rfl⟩, .inr rfl, by decide, by decide⟩
  have e0 : ∀ (n : Int) (k : Nat) (w : Bs), n = k → decDigits k = w → k < 2147483648 → decW n = some w := fun n k w h1 h2 h3 => by
    subst h1; unfold decW; rw [if_pos ⟨by omega, by omega⟩, Int.toNat_natCast, h2]
  simp only [wrds, wrd, tS2]
  rw [e0 2 2 _ rfl dD2 (by decide), e0 1 1 _ rfl dD1 (by decide), show whatW 3 = some [118, 97] from rfl, show hexW (4096 : Int).toNat = [48, 120, 49, 48, 48, 48] from by show hexW 4096 = _; unfold hexW; rw [hD4096]]
theorem tP2 {s : St} {c : Int} (h : ParseIs tL2 s c) : s = tS2 ∧ c = 0 := h.unique (.is (by decide) (wf0 _ (by decide) (by decide) (by decide) (by decide)) tI2)
def tL3 : Bs := [108, 111, 97, 100, 32, 48, 49, 32, 48, 120, 48, 32, 56, 32, 48]
def tS3 : St := { kind := 1, guest := 1, addr := 0, size := 8, way := 0 }
theorem tP3 {s : St} {c : Int} (h : ParseIs tL3 s c) : c = 4 := by
  have hn : ∀ s : St, s.wf → ¬ IsT s tL3 := by
    refine cand_only (n := 1) (w0 := [108, 111, 97, 100]) (fs := [.g, .x, .s, .w]) (ws := [[48, 49], [48, 120, 48], [56], [48]]) (d := tS3) rfl (by decide) (by decide) ?_
    intro h9
    have h8 := textS_of h9
    have h7 : TextS tS3 = ([108, 111, 97, 100, 32, 49, 32, 48, 120, 48, 32, 56, 32, 48], 0) := by
      refine textS_of ⟨1, [108, 111, 97, 100], [.g, .x, .s, .w], [[49], [48, 120, 48], [56], [48]], rfl, by decide, by decide, rfl, ?_, ⟨rfl, rfl, rfl, rfl, rfl, rfl, rfl, rfl, rfl, rfl, rfl⟩, .inr rfl, by decide, by decide⟩
      have e0 : ∀ (n : Int) (k : Nat) (w : Bs), n = k → decDigits k = w → k < 2147483648 → decW n = some w := fun n k w h1 h2 h3 => by
        subst h1; unfold decW; rw [if_pos ⟨by omega, by omega⟩, Int.toNat_natCast, h2]
      simp only [wrds, wrd, tS3]
      rw [e0 1 1 _ rfl dD1 (by decide), e0 8 8 _ rfl dD8 (by decide), e0 0 0 _ rfl dD0 (by decide), show hexW (0 : Int).toNat = [48, 120, 48] from by show hexW 0 = _; unfold hexW; rw [hD0]]
    rw [h7] at h8
    revert h8
    decide
  cases h with
  | long h => exact absurd h (by decide)
  | is h hs ht => exact absurd ht (hn _ hs)
  | none h ht => rfl
theorem tI9 : IsT { kind := 9 } [99, 114, 101, 97, 116, 101] := ⟨9, [99, 114, 101, 97, 116, 101], [], [], rfl, by decide, by decide, rfl, rfl, ⟨rfl, rfl, rfl, rfl, rfl, rfl, rfl, rfl, rfl, rfl, rfl⟩, .inr rfl, by decide, by decide⟩
theorem tI13 : IsT { kind := 13 } [110, 101, 119] := ⟨13, [110, 101, 119], [], [], rfl, by decide, by decide, rfl, rfl, ⟨rfl, rfl, rfl, rfl, rfl, rfl, rfl, rfl, rfl, rfl, rfl⟩, .inr rfl, by decide, by decide⟩
theorem wfk (k : Int) : ({ kind := k } : St).wf := ⟨(by decide : (0 : Int) ≤ 0), (by decide : (0 : Int) < 18446744073709551616), (by decide : (0 : Int) ≤ 0), (by decide : (0 : Int) < 18446744073709551616)⟩
theorem tO9 : parseO [99, 114, 101, 97, 116, 101] = some { kind := 9 } := parseO_some (by decide) (wfk _) tI9
theorem tO13 : parseO [110, 101, 119] = some { kind := 13 } := parseO_some (by decide) (wfk _) tI13
theorem parseO_none {l : Bs} (h : ∀ s : St, s.wf → ¬ IsT s l) : parseO l = none := by
  unfold parseO
  rw [dif_neg]
  rintro ⟨_, s, hs, h9⟩
  exact h s hs h9
theorem tOm : parseO [109, 97, 107, 101] = none := parseO_none (cand_no (x0 := [109, 97, 107, 101]) (ws := []) (by decide) (fun j w0 fs h1 h2 h3 h4 => by
  have : ∀ n : Fin 33, ∀ p ∈ kdT[n.1]?, p.1 ≠ [109, 97, 107, 101] := by decide
  exact this ⟨j, by omega⟩ _ h3 h4.1))
def tL4 : Bs := [99, 114, 101, 97, 116, 101, 10, 10, 35, 32, 120, 10, 110, 101, 119]
def tL5 : Bs := [99, 114, 101, 97, 116, 101, 10, 109, 97, 107, 101]
theorem tR4 : ReadS tL4 = ([{ kind := 9 }, { kind := 13 }], 0, 0) := by
  have hc : cutL 10 tL4 = [[99, 114, 101, 97, 116, 101], [], [35, 32, 120], [110, 101, 119]] := by decide
  have hr : rdF 0 (cutL 10 tL4) = ([{ kind := 9 }, { kind := 13 }], 0) := by
    rw [hc]
    rw [rdF, if_neg (by decide), tO9]
    dsimp only
    rw [rdF, if_pos (by decide), rdF, if_pos (by decide), rdF, if_neg (by decide), tO13]
    rfl
  unfold ReadS
  rw [if_neg (by decide), hr]
  rfl
theorem tR5 : ReadS tL5 = ([], 4, 2) := by
  have hc : cutL 10 tL5 = [[99, 114, 101, 97, 116, 101], [109, 97, 107, 101]] := by decide
  have hr : (rdF 0 (cutL 10 tL5)).2 = 2 := by
    rw [hc]
    rw [rdF, if_neg (by decide), tO9]
    dsimp only
    rw [rdF, if_neg (by decide), tOm]
  unfold ReadS
  rw [if_neg (by decide), hr]
  rfl
theorem tT0 : TextS {} = ([], 1) := textS_out (.inl (by decide))
def tRs : Rs := { code := 0, value := 7, stage := 0, fkind := 0, level := 0, faddr := 0, store := false, pages := [0] }
theorem tRs_ok : tRs.ok := by
  have z : i64ok 0 := ⟨by decide, by decide⟩
  exact { code := z, v0 := by decide, v1 := by decide, stage := z, fkind := z, level := z, a0 := by decide, a1 := by decide, pg := fun x hx => by rw [show tRs.pages = [0] from rfl, List.mem_singleton] at hx; subst hx; exact ⟨by decide, by decide⟩ }
theorem tTell : TellS tRs = [111, 107, 32, 48, 120, 55, 32, 112, 97, 103, 101, 115, 32, 48, 120, 48] := by
  have e7 : hexW (7 : Int).toNat = [48, 120, 55] := by show hexW 7 = _; unfold hexW; rw [hD7]
  have e0 : hexW (0 : Int).toNat = [48, 120, 48] := by show hexW 0 = _; unfold hexW; rw [hD0]
  unfold TellS thd tl5 tl4 tl3 tl2 tl1 pgW tRs
  simp only [List.map_cons, List.map_nil, e7, e0]
  decide
theorem ok1 : tS1.ok := by
  have z : i64ok 0 := ⟨by decide, by decide⟩
  exact { a0 := by decide, a1 := by decide, v0 := by decide, v1 := by decide, kind := ⟨by decide, by decide⟩, guest := ⟨by decide, by decide⟩, size := ⟨by decide, by decide⟩, page := z, asid := z, what := z, set := z, way := z }
end Go.Proofs.YtjofegjiakjjhaaDoor
/- Script, told: the program tells what the document says of a few. -/
namespace Go.Proofs.YtjofegjiakjjhaaDoor
open Go.RowKit Go.Lib Mf

theorem fails_nil (w : World) (B : Nat) : FailsAt w B (.slice none 0 0) [] := ⟨none, 0, rfl, Reads.none_⟩
set_option maxRecDepth 20000 in
set_option maxHeartbeats 8000000 in
theorem told_any {w : World} (he : Env w) : Calls Tryd.prog 9 #[] w fun e w' => e = .returned (.bool true) ∧ Below w.heap.size w w' := by
  have HB1 := Lib.hid (show Blk (w.alloc (.cells (stC tS1 (.slice none 0 0)) 25)) w.heap.size 25 (stC tS1 (.slice none 0 0)) from Blk.new _ _ _)
  have HBE := Lib.hid ((Below.refl w.heap.size w).alloc (Nat.le_refl _) (.cells (stC tS1 (.slice none 0 0)) 25))
  have HE := Lib.hid (he.below HBE.out)
  clear he
  go_enter Tryd.func9, Tryd.ntmps9
  go_upto_region 2 with fail
  have hb1 := HB1.out
  have hbe := HBE.out
  have hev := HE.out
  unfold stC tS1 at hb1 hbe hev
  dsimp only at hb1 hbe hev
  clear HB1 HBE HE
  generalize w.alloc (.cells #[.int .i64 2, .int .i64 1, .int .u64 8, .int .i64 8, .int .u64 255, .int .i64 0, .bool false, .int .i64 0, .int .i64 0, .int .i64 0, .int .i64 0, .slice none 0 0] 25) = w1 at *
  have cs1 := stC_cells (show Blk w1 w.heap.size 25 (stC tS1 (.slice none 0 0)) from hb1)
  have HBE := Lib.hid hbe
  have HE := Lib.hid hev
  clear hb1 hbe hev
  go_wp2_with fail
  refine (ltext tS1 ok1 (.slice none 0 0) HE.out (fails_nil _ _) (by decide)).mono ?_; rintro e w2 ⟨rfl, hb⟩
  rw [tT1]
  dsimp only
  replace HBE := Lib.hid (HBE.out.trans (hb.mono HBE.out.size))
  replace HE := Lib.hid (HE.out.below hb)
  clear hb cs1
  go_wp2_with fail
  refine (lparse tL2 (by decide) HE.out).mono ?_; rintro e w3 ⟨s, F, c, rfl, hp, hok, hW, hfl, hb⟩
  obtain ⟨rfl, rfl⟩ := tP2 hp
  obtain ⟨FA, Fc, rfl⟩ := hW.form
  have HW := Lib.hid hW
  have HOK := Lib.hid hok
  replace HBE := Lib.hid (HBE.out.trans (hb.mono HBE.out.size))
  replace HE := Lib.hid (HE.out.below hb)
  clear hb hp hok hW hfl
  go_upto_region 4 with fail
  generalize hwa : w3.alloc _ = wa
  have HB4 := Lib.hid (show Blk wa w3.heap.size 25 (stC tS2 (.slice FA tS2.fails.length Fc)) from by rw [← hwa]; exact Blk.new _ _ _)
  have hbx : Below w3.heap.size w3 wa := by rw [← hwa]; exact (Below.refl _ _).alloc (Nat.le_refl _) _
  replace HBE := Lib.hid (HBE.out.trans (hbx.mono HBE.out.size))
  replace HE := Lib.hid (HE.out.below hbx)
  replace HW := Lib.hid (own_below HW.out hbx)
  clear hwa hbx
  generalize w3.heap.size = b4 at *
  go_wp2_with fail
  refine (lparse tL3 (by decide) HE.out).mono ?_; rintro e w4 ⟨s, F, c, rfl, hp, hok, hW, hfl, hb⟩
  obtain rfl := tP3 hp
  obtain ⟨GA, Gc, rfl⟩ := hW.form
  replace HBE := Lib.hid (HBE.out.trans (hb.mono HBE.out.size))
  replace HE := Lib.hid (HE.out.below hb)
  replace HW := Lib.hid (own_below HW.out hb)
  replace HB4 := Lib.hid (HB4.out.below hb HB4.out.lt)
  clear hb hp hok hW hfl
  go_upto_region 5 with fail
  generalize hwa : w4.alloc _ = wb
  have hbx : Below w4.heap.size w4 wb := by rw [← hwa]; exact (Below.refl _ _).alloc (Nat.le_refl _) _
  replace HBE := Lib.hid (HBE.out.trans (hbx.mono HBE.out.size))
  replace HE := Lib.hid (HE.out.below hbx)
  replace HW := Lib.hid (own_below HW.out hbx)
  replace HB4 := Lib.hid (HB4.out.below hbx HB4.out.lt)
  clear hwa hbx
  generalize w4.heap.size = b6 at *
  go_wp2_with fail
  refine (lread tL4 (by decide) HE.out).mono ?_; rintro e w5 ⟨l, v, c, k, rfl, hr, hL, hb⟩
  rw [tR4] at hr
  injection hr with h1 h2
  injection h2 with h2 h3
  subst h2 h3
  obtain ⟨lA, lc, rfl, _⟩ := hL.sts
  have hl2 : l.length = 2 := by
    have := congrArg List.length h1
    simpa using this.symm
  rw [hl2]
  replace HBE := Lib.hid (HBE.out.trans (hb.mono HBE.out.size))
  replace HE := Lib.hid (HE.out.below hb)
  replace HW := Lib.hid (own_below HW.out hb)
  replace HB4 := Lib.hid (HB4.out.below hb HB4.out.lt)
  clear hb hL h1 hl2
  go_wp2_with fail
  refine (lread tL5 (by decide) HE.out).mono ?_; rintro e w6 ⟨l', v, c, k, rfl, hr, hL, hb⟩
  rw [tR5] at hr
  injection hr with h1 h2
  injection h2 with h2 h3
  subst h2 h3
  replace HBE := Lib.hid (HBE.out.trans (hb.mono HBE.out.size))
  replace HE := Lib.hid (HE.out.below hb)
  replace HW := Lib.hid (own_below HW.out hb)
  replace HB4 := Lib.hid (HB4.out.below hb HB4.out.lt)
  clear hb hL h1
  go_wp2_with fail
  refine (ltext {} (St.ok0 0 ⟨by decide, by decide⟩) (.slice none 0 0) HE.out (fails_nil _ _) (by decide)).mono ?_; rintro e w7 ⟨rfl, hb⟩
  rw [tT0]
  dsimp only
  replace HBE := Lib.hid (HBE.out.trans (hb.mono HBE.out.size))
  replace HE := Lib.hid (HE.out.below hb)
  replace HW := Lib.hid (own_below HW.out hb)
  replace HB4 := Lib.hid (HB4.out.below hb HB4.out.lt)
  clear hb
  have cs4 := stC_cells HB4.out
  have HFA := Lib.hid (show FailsAt w7 w7.heap.size (.slice FA tS2.fails.length Fc) tS2.fails from ⟨FA, Fc, rfl, Reads.of_own HW.out⟩)
  go_wp2_with fail
  refine (rsame tS2 tS2 (.slice FA tS2.fails.length Fc) (.slice none 0 0) _ HFA.out (fails_nil _ _) (by decide) (by decide)).mono ?_; rintro e w8 ⟨rfl, hb⟩
  rw [(sameS_iff tS2 tS2).2 rfl]
  replace HBE := Lib.hid (HBE.out.trans (hb.mono HBE.out.size))
  replace HE := Lib.hid (HE.out.below hb)
  clear hb cs4 HFA
  go_wp2_with fail
  have hbx := (Below.refl w8.heap.size w8).alloc (Nat.le_refl _) (.cells #[.int .u64 0] 22)
  refine (ltell tRs tRs_ok (by decide) (some ⟨w8.heap.size, 0, none⟩) 1 (HE.out.below hbx) (reads_one1 w8 (.int .u64 0) 22)).mono ?_; rintro e w9 ⟨rfl, hb⟩
  rw [tTell]
  replace HBE := Lib.hid (HBE.out.trans (hbx.mono HBE.out.size))
  replace HBE := Lib.hid (HBE.out.trans (hb.mono HBE.out.size))
  clear hb hbx
  go_wp2
  go_ret
  exact ⟨rfl, HBE.out⟩
end Go.Proofs.YtjofegjiakjjhaaDoor
