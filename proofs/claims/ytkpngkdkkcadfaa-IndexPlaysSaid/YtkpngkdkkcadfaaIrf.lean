/- The law's frames: all of a memory's bytes. -/
import Derived.Test.YtkpngkdkkcadfaaIre
namespace Go.Proofs.Ytkpngkdkkcadfaa
open Go.RowKit Mk

theorem kframes {w : World} {W cm cx : Nat} {G : Int → Nat → Nat} {S : Ki → Option Cx} {B : Nat → Prop} (h : Bk w W cm cx G S B) : Calls Try.prog 37 #[.pointer (some ⟨cm, 0, none⟩)] w fun e w' => e = .returned (.int .i64 12) ∧ w = w' := by
  obtain ⟨Bm, Bx, ⟨mb, PF, h1, rfl⟩, h2, h3, h4, h5, rfl⟩ := h
  obtain ⟨o, hb⟩ := h1.blk
  have c0 : w.cell? ⟨cm, 0, none⟩ = some (.int .i64 12) := (hb.cell 0).trans rfl
  clear h1 hb h2 h3 h4 h5
  go_enter Try.func37, Try.ntmps37
  go_wp2
  go_ret
  exact ⟨rfl, rfl⟩
theorem infoB : (Try.prog.info? 30).map (fun i => (i.zero, i.size, i.bytes)) = some (some (.slice none 0 0), 1, 24) := by kernel_rfl
def FsR (w : World) (W cm cx : Nat) (G : Int → Nat → Nat) (S : Ki → Option Cx) (B : Nat → Prop) (vo vi : Value) (wr : World) : Prop := ∃ (i : Nat) (fs : List Value), vi = .int .i64 i ∧ i ≤ 12 ∧ wr.ownsRow w.heap.size 30 1 vo i fs ∧ (∀ k : Nat, k < i → ∃ u, fs[k]? = some u ∧ u.ownBlock ≠ vo.ownBlock ∧ BRow wr w.heap.size u (G k)) ∧ Bk wr W cm cx G S B ∧ Below w.heap.size w wr
set_option maxRecDepth 100000 in
set_option maxHeartbeats 8000000 in
theorem lframes {w : World} {W cm cx : Nat} {G : Int → Nat → Nat} {S : Ki → Option Cx} {B : Nat → Prop} (h : Bk w W cm cx G S B) :
    Calls Try.prog 13 #[.pointer (some ⟨cm, 0, none⟩)] w fun e w' => ∃ v, e = .returned v ∧ FR w' w.heap.size v G (fun g => w.heap.size ≤ g ∧ g < w'.heap.size) ∧ Below w.heap.size w w' := by
  obtain ⟨i0, hi0, hz0', hz1, hz2⟩ := info_parts infoB
  have HK := Lib.hid h
  have HK0 := Lib.hid h
  clear h
  go_enter Try.func13, Try.ntmps13
  go_wp2_with fail
  go_loopw [3, 4] (FsR w W cm cx G S B) (fun _ v _ => 12 - cntI v)
  case atStart => exact ⟨0, [], rfl, Nat.zero_le _, World.ownsRow_nil _ _ _ _, fun k hk => by omega, HK.out, Below.refl _ _⟩
  case round =>
    obtain ⟨i, fs, rfl, hi, hrow, hfs, hbk, hbe⟩ := hrel
    have HR := Lib.hid hrow
    have HF := Lib.hid hfs
    replace HK := Lib.hid hbk
    have HB := Lib.hid hbe
    clear hrow hfs hbk hbe
    by_cases hlt : i < 12
    · have g1 : decide ((i : Int) < 12) = true := by simp; omega
      have hwf : (Lit.int .i64 (i : Int)).wf = true := wf_small (by omega)
      go_wp2_with fail
      refine (kframes HK.out).mono ?_; rintro e _ ⟨rfl, rfl⟩
      go_wp2_with fail
      refine (kget_ok HK.out i hwf (by omega)).mono ?_; rintro e w2 ⟨b, cc, rfl, _, hb0, hpg, hbb⟩
      have HPG := Lib.hid hpg
      have HR2 := Lib.hid (own_below HR.out hbb)
      have HBB := Lib.hid hbb
      have hsz := HB.out.size
      have hsz2 := hbb.size
      have hbl := (hpg.lt b rfl).2
      clear hpg hbb
      go_wp2_with (first
        | (at_builtin; refine wpList_append_any _ rfl (.tmp 19) (.tmp 21) _ rfl w.heap.size 30 i0 _ 1 24 Try.underlying39 hi0 hz0' hz1 hz2 rfl (by omega) u3 _ _ rfl (HR2.out.alloc _) _ (some ⟨w2.heap.size, 0, none⟩) 1 1 [.slice (some ⟨b, 0, none⟩) 4096 cc] rfl (reads_one1 w2 _ _) (by simp; rfl) (by unfold maxLen; omega) (by omega) (by simp; omega) ?_; intro v4 w4 hown4 hg4 hat4)
        | go_in)
      have hub : ∀ g, u3.ownBlock = some g → w.heap.size ≤ g ∧ g < wr.heap.size := fun g hg => HR.out.lt g hg
      have hB2 : Below w.heap.size w w2 := HB.out.trans (HBB.out.mono (by omega))
      have hBA : Below w.heap.size w2 w4 := ((Below.refl w.heap.size w2).alloc (by omega) (.cells #[.slice (some ⟨b, 0, none⟩) 4096 cc] 30)).grown hg4 (by simp; omega) (fun g hg => (hub g hg).1)
      have hk4 : Bk w4 W cm cx G S B := by
        have h8 := (HK.out.below HBB.out).below ((Below.refl w2.heap.size w2).alloc (Nat.le_refl _) (.cells #[.slice (some ⟨b, 0, none⟩) 4096 cc] 30))
        exact h8.apart (T := fun g => u3.ownBlock = some g) ((Only.refl _ _).grown hg4 fun g hg => .inl hg) fun g hg hg' => by
          have := (HK0.out.lt hg).2
          have := (hub g hg').1
          omega
      refine ⟨⟨i + 1, _, by go_num, by omega, hown4, fun k hk => ?_, hk4, hB2.trans hBA⟩, by simp [cntI]; omega⟩
      by_cases hki : k = i
      · subst hki
        refine ⟨.slice (some ⟨b, 0, none⟩) 4096 cc, ?_, ?_, ?_⟩
        · have hl : fs.length = k := by have := HR.out.1; omega
          rw [List.getElem?_append_right (by omega), hl]; simp
        · rcases hat4 with e | e
          · rw [e]; intro e2; have := hub b e2.symm; omega
          · rw [e]; intro e2; have := Option.some.inj e2; simp at this; omega
        · exact (ownsRow_mono (HPG.out.alloc _) (by omega)).kept hg4 (.inr fun e2 => by have := hub b e2.symm; omega)
      · obtain ⟨u, hu1, hu2, hu3⟩ := HF.out k (by omega)
        have hul : ∀ g, u.ownBlock = some g → g < wr.heap.size := fun g hg => (hu3.lt g hg).2
        refine ⟨u, ?_, ?_, ?_⟩
        · rw [List.getElem?_append_left (by have := (List.getElem?_eq_some_iff.1 hu1).1; omega)]; exact hu1
        · rcases hat4 with e | e
          · rw [e]; exact hu2
          · rw [e]; intro e2; have := hul _ e2; simp at this; omega
        · exact ((own_below hu3 HBB.out).alloc _).kept hg4 (.inr hu2)
    · obtain rfl : i = 12 := by omega
      go_wp2_with fail
      refine (kframes HK.out).mono ?_; rintro e _ ⟨rfl, rfl⟩
      go_wp2
      go_ret
      exact ⟨_, rfl, ⟨fs, HR.out, fun g hg => HR.out.lt g hg, fun k hk => by obtain ⟨u, a1, _, a3⟩ := HF.out k hk; exact ⟨u, a1, fun g hg => a3.lt g hg, a3⟩⟩, HB.out⟩
end Go.Proofs.Ytkpngkdkkcadfaa
