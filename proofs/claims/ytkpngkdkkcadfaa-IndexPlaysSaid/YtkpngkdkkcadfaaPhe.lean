/- Package phys: Write. -/
import Derived.Test.YtkpngkdkkcadfaaPhd
namespace Go.Proofs.Ytkpngkdkkcadfaa
open Go.RowKit Mk

/-- A frame's bytes are others. -/
def wrF (G : Int → Nat → Nat) (f : Int) (g : Nat → Nat) : Int → Nat → Nat := fun k => if k = f then g else G k
section
variable {w w' : World} {W c mb n : Nat} {PF : Ki → Option Value} {G : Int → Nat → Nat} {B : Nat → Prop}
def PlaceIs (w : World) (n fr a : Nat) (e : Ending) (w' : World) : Prop := Below w.heap.size w w' ∧ ((fr < n ∧ e = .returned (.tuple #[.int .i64 fr, .int .i64 a, .int .i64 0])) ∨ (n ≤ fr ∧ e = .returned (.tuple #[.int .i64 0, .int .i64 0, .int .i64 2])))
set_option maxRecDepth 100000 in
set_option maxHeartbeats 4000000 in
theorem pplace (h : Ph w W c mb n PF G) (hn : n ≤ 1048576) {fr a s x : Nat} (hs : s = 1 ∨ s = 8) (ha : a % s = 0) (hb : a + s ≤ 4096) (hx : x = fr * 4096 + a) (hf : fr ≤ 1000000) :
    Calls Try.prog 26 #[.pointer (some ⟨c, 0, none⟩), .int .u64 x, .int .i64 s] w (PlaceIs w n fr a) := by
  obtain ⟨o, hbk⟩ := h.blk
  obtain ⟨i0, hi0, hz0', hz1, hz2⟩ := info_parts infoY
  obtain ⟨w2, hmk, hown, hg⟩ := run_makeSlice_full (P := Try.prog) w w.heap.size 30 5 i0 (.int .u8 0) 1 Try.underlying30 hi0 hz0' hz1 .i64 .i64 4096 (by omega) (by rw [hz2]; omega) (by unfold maxLen; omega) (Nat.le_refl _)
  rw [made_row _ rfl, byL_zero] at hown
  have hmk : (Instr.makeSlice 30 (.int .i64 4096) (.int .i64 4096)).run Try.prog w = .ok (.slice (some ⟨w.heap.size, 0, none⟩) 4096 4096) w2 := hmk
  have hbl : Below w.heap.size w w2 := (Below.refl _ w).grown hg (Nat.le_refl _) (fun _ e => by cases e)
  have HB := Lib.hid hbl
  have c0 := ((hbk.below hbl hbk.lt).cell 0).trans rfl
  have C := Lib.hid (bget hs ha hb (Pg.of_own hown).reads (cc := 4096))
  have h1 : (x : Int) % 4096 = (a : Int) := by omega
  have h2 : (x : Int) / 4096 = (fr : Int) := by omega
  clear hown hg hbl h hbk hi0 hz0' hz1 hz2 hs ha hx
  by_cases hl : fr < n
  · have g1 : decide ((fr : Int) ≥ (n : Int)) = false := by simp; omega
    have g1' : decide ((n : Int) ≤ (fr : Int)) = false := by simp; omega
    have g1'' : decide (n ≤ fr) = false := by simp; omega
    have HL := Lib.hid hl
    clear hl
    go_enter Try.func26, Try.ntmps26
    go_wp2_with fail
    refine C.out.mono ?_; rintro e w3 ⟨y, rfl, rfl⟩
    go_wp2
    go_ret3
    exact ⟨HB.out, .inl ⟨HL.out, rfl⟩⟩
  · have g1 : decide ((fr : Int) ≥ (n : Int)) = true := by simp; omega
    have g1' : decide ((n : Int) ≤ (fr : Int)) = true := by simp; omega
    have g1'' : decide (n ≤ fr) = true := by simp; omega
    have HL := Lib.hid hl
    clear hl
    go_enter Try.func26, Try.ntmps26
    go_wp2_with fail
    refine C.out.mono ?_; rintro e w3 ⟨y, rfl, rfl⟩
    go_wp2
    go_ret3
    exact ⟨HB.out, .inr ⟨by have := HL.out; omega, rfl⟩⟩
theorem Ph.tick (h : Ph w W c mb n PF G) (x : Int) : Ph (w.setCell ⟨c, 2, none⟩ (.int .i64 x)) W c mb n PF G ∧ Only (fun g => g = c) w (w.setCell ⟨c, 2, none⟩ (.int .i64 x)) := by
  obtain ⟨o, hb⟩ := h.blk
  obtain ⟨N, hN⟩ := h.pm
  have ho : Only (fun g => g = c) w (w.setCell ⟨c, 2, none⟩ (.int .i64 x)) := Only.setCell (S := fun g => g = c) (Only.refl _ w) (p := ⟨c, 2, none⟩) (.inl rfl) _
  exact ⟨⟨⟨x, hb.set_ 2 (.int .i64 x)⟩, ⟨N, hN.only ho (fun e => h.lo.2.2 e.symm)⟩, fun k v hk => own_keep (h.row k v hk) ho fun g hg e => (h.ap k v hk).1 (by rw [hg, e]), h.zer, h.byt, h.lo, h.ap⟩, ho⟩
set_option maxRecDepth 100000 in
theorem Ph.put (h : Ph w W c mb n PF G) (k : Ki) {v : Value} {B0 : Nat} {g : Nat → Nat} (hr : BRow w B0 v g) (hB : W ≤ B0) (hg : ∀ j, g j < 256) (hc : c < B0) (hm : mb < B0) :
    ∃ w', (Instr.mapUpdate 66 (.map (some mb)) (.int .i64 k.1) v).run Try.prog w = .ok () w' ∧ Ph w' W c mb n (fun j => if j = k then some v else PF j) (wrF G k.1 g) ∧ Only (fun g => g = mb) w w' := by
  obtain ⟨o, hb⟩ := h.blk
  obtain ⟨N, hN⟩ := h.pm
  obtain ⟨w', hrun, hm2, ht⟩ := hN.store (t := 66) Try.underlying66 k v
  have ho : Only (fun g => g = mb) w w' := (Only.refl _ w).turned ht (.inl rfl)
  have hv1 : v.ownBlock ≠ some c := fun e => by have := (hr.lt c e).1; omega
  have hv2 : v.ownBlock ≠ some mb := fun e => by have := (hr.lt mb e).1; omega
  refine ⟨w', hrun, ⟨⟨o, hb.only ho h.lo.2.2⟩, ⟨_, hm2⟩, fun j x hj => ?_, fun j hj i => ?_, fun j i => ?_, h.lo, fun j x hj => ?_⟩, ho⟩
  · have hj : (if j = k then some v else PF j) = some x := hj
    by_cases e : j = k
    · rw [if_pos e] at hj
      injection hj with hj
      subst hj e
      rw [show wrF G j.1 g j.1 = g from if_pos rfl]
      exact ownsRow_mono (own_keep hr ho fun g' hg' e => hv2 (by rw [hg', e])) hB
    · rw [if_neg e] at hj
      rw [show wrF G k.1 g j.1 = G j.1 from if_neg fun e2 => e (Subtype.ext e2)]
      exact own_keep (h.row j x hj) ho fun g' hg' e => (h.ap j x hj).2 (by rw [hg', e])
  · have hj : (if j = k then some v else PF j) = none := hj
    by_cases e : j = k
    · rw [if_pos e] at hj; cases hj
    · rw [if_neg e] at hj
      rw [show wrF G k.1 g j.1 = G j.1 from if_neg fun e2 => e (Subtype.ext e2)]
      exact h.zer j hj i
  · unfold wrF
    by_cases e : j = k.1
    · rw [if_pos e]; exact hg i
    · rw [if_neg e]; exact h.byt j i
  · have hj : (if j = k then some v else PF j) = some x := hj
    by_cases e : j = k
    · rw [if_pos e] at hj; injection hj with hj; subst hj; exact ⟨hv1, hv2⟩
    · rw [if_neg e] at hj; exact h.ap j x hj
/-- What Write leaves. -/
def WrIs (w : World) (W c n fr : Nat) (G' : Int → Nat → Nat) (B : Nat → Prop) (e : Ending) (w' : World) : Prop := (fr < n ∧ e = .returned (.int .i64 0) ∧ PmTo w w' W c n G' B) ∨ (n ≤ fr ∧ e = .returned (.int .i64 2) ∧ Below w.heap.size w w')
set_option maxRecDepth 100000 in
set_option maxHeartbeats 4000000 in
theorem pwrite (hm : Pm w W c n G B) (hn : n ≤ 1048576) {fr a s x : Nat} (hs : s = 1 ∨ s = 8) (ha : a % s = 0) (hb : a + s ≤ 4096) (hx : x = fr * 4096 + a) (hf : fr ≤ 1000000) (v : Nat) (hW : W ≤ w.heap.size) :
    Calls Try.prog 7 #[.pointer (some ⟨c, 0, none⟩), .int .u64 x, .int .i64 s, .int .u64 v] w (WrIs w W c n fr (wrF G fr (putB (G fr) a s v)) B) := by
  obtain ⟨mb, PF, h, rfl⟩ := hm
  have C := Lib.hid (pplace h hn hs ha hb hx hf)
  have H := Lib.hid h
  have hwf := wf_small (k := fr) (by omega)
  have HA := Lib.hid (show (s = 1 ∨ s = 8) ∧ a % s = 0 ∧ a + s ≤ 4096 from ⟨hs, ha, hb⟩)
  have hpb : ∀ j, putB (G fr) a s v j < 256 := fun j => by
    unfold putB
    split
    · exact Nat.mod_lt _ (by omega)
    · exact h.byt _ _
  have HPB := Lib.hid hpb
  clear h hs ha hb hx hpb
  go_enter Try.func7, Try.ntmps7
  go_wp2_with fail
  refine C.out.mono ?_; rintro e w1 ⟨hb1, (⟨hl, rfl⟩ | ⟨hl, rfl⟩)⟩
  · have H1 := Lib.hid (H.out.below hb1)
    have HB1 := Lib.hid hb1
    have HL := Lib.hid hl
    obtain ⟨o, hbk⟩ := H1.out.blk
    have c2 := (hbk.cell 2).trans rfl
    have z2 := hbk.frozen 2
    have HT := Lib.hid (H1.out.tick (wrap64 (o + 1)))
    clear hb1 hl hbk C
    go_wp2_with fail
    generalize w1.setCell ⟨c, 2, none⟩ (.int .i64 (wrap64 (o + 1))) = w2 at *
    refine (ppage HT.out.1 fr hwf).mono ?_; rintro e w3 ⟨b, cc, rfl, hp, hb3⟩
    have H3 := Lib.hid (HT.out.1.below hb3)
    have HB3 := Lib.hid hb3
    have HP := Lib.hid hp
    clear hb3 hp c2 z2
    go_wp2_with fail
    refine (bput (v := v) HA.out.1 HA.out.2.1 HA.out.2.2 HP.out.reads).mono ?_; rintro e w4 ⟨v', rfl, hr, hb4⟩
    have H4 := Lib.hid (H3.out.below hb4)
    have HB4 := Lib.hid hb4
    have HR := Lib.hid hr
    obtain ⟨o4, hbk⟩ := H4.out.blk
    have c1 := (hbk.cell 1).trans rfl
    obtain ⟨N3, hN3⟩ := H3.out.pm
    obtain ⟨o3, hb3⟩ := H3.out.blk
    have hs3 : w.heap.size ≤ w3.heap.size := by have := HB1.out.size; have := HT.out.2.size; have := HB3.out.size; omega
    obtain ⟨w5, hrun, h5, ho5⟩ := H4.out.put ⟨fr, hwf⟩ HR.out (by omega) HPB.out hb3.lt hN3.lt
    have H5 := Lib.hid h5
    have HO5 := Lib.hid ho5
    have hrun : (Instr.mapUpdate 66 (.map (some mb)) (.int .i64 (fr : Int)) v').run Try.prog w4 = .ok () w5 := hrun
    clear h5 ho5 hr hb4 hbk hN3 hb3 HP
    go_wp2
    go_ret
    refine .inl ⟨HL.out, rfl, _, ⟨mb, _, H5.out, rfl⟩, ?_, fun g hg => ?_⟩
    · refine ((((only_fresh HB1.out).trans (HT.out.2.mono fun g e => ?_)).trans (only_fresh HB3.out)).trans (only_fresh HB4.out)).trans (HO5.out.mono fun g e => ?_)
      · exact .inl e
      · exact .inr (.inl e)
    · rcases hg with hg | hg | ⟨k, x, hk, hx⟩
      · exact .inl (.inl hg)
      · exact .inl (.inr (.inl hg))
      · have hk : (if k = ⟨fr, hwf⟩ then some v' else PF k) = some x := hk
        by_cases e : k = ⟨fr, hwf⟩
        · rw [if_pos e] at hk
          injection hk with hk
          subst hk
          right
          have := (HR.out.lt g hx).1
          omega
        · rw [if_neg e] at hk
          exact .inl (.inr (.inr ⟨k, x, hk, hx⟩))
  · have HB1 := Lib.hid hb1
    have HL := Lib.hid hl
    clear hb1 hl C
    go_wp2
    go_ret
    exact .inr ⟨HL.out, rfl, HB1.out⟩
end
end Go.Proofs.Ytkpngkdkkcadfaa
