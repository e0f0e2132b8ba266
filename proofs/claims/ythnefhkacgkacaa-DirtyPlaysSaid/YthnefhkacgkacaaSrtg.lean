/- pdqsortOrdered's helpers at words: heapSort. -/
import Derived.Test.YthnefhkacgkacaaSrth
namespace Go.Proofs.Ythnefhkacgkacaa
open Go.RowKit

theorem grownBy_tr {w w' w'' : World} {r : Option Nat} (h : w.grownBy w' r) (k : w'.grownBy w'' r) : w.grownBy w'' r :=
  ⟨k.os.trans h.os, k.tape.trans h.tape, k.output.trans h.output, Nat.le_trans h.size k.size, fun b hb hne => (k.block b (Nat.lt_of_lt_of_le hb h.size) hne).trans (h.block b hb hne)⟩

theorem RowU.trans {w wr w' : World} {base g n cap a b a' b' : Nat} {d0 d d' : List Int} (h : RowU w base g n cap d0 a b d wr) (k : RowU wr base g n cap d a' b' d' w') (ha : a ≤ a') (hb : b' ≤ b) : RowU w base g n cap d0 a b d' w' :=
  ⟨k.own, h.seg.trans (k.seg.mono ha hb), grownBy_tr h.grown k.grown⟩

def HsU1 (w : World) (base g n cap : Nat) (d0 : List Int) (a h q : Nat) (v : Value) (wr : World) : Prop := ∃ (t : Nat) (d : List Int), v = .int .i64 ((t : Int) - 1) ∧ t ≤ q ∧ RowU w base g n cap d0 a (a + h) d wr ∧ Heap d a h t
def HsU2 (w : World) (base g n cap : Nat) (d0 : List Int) (a h : Nat) (v : Value) (wr : World) : Prop := ∃ (t : Nat) (d : List Int), v = .int .i64 ((t : Int) - 1) ∧ t ≤ h ∧ RowU w base g n cap d0 a (a + h) d wr ∧ Hps d a (a + h) t

/-- The count that a slot holds, and one. -/
def dn : Value → Nat | .int _ q => (q + 1).toNat | _ => 0

set_option maxRecDepth 100000 in
set_option maxHeartbeats 4000000 in
theorem heap_u (off base g n cap a b h : Nat) (d : List Int) (w : World) (hoff : off = 0) (hw : RowW w base g n cap d) (hL : b = a + h) (hb : b ≤ n) (hsz : n ≤ 255) (h0 : 0 < h) :
    Calls Try.prog 28 #[.slice (some ⟨g, off, none⟩) n cap, .int .i64 a, .int .i64 b] w fun e w' =>
      e = .returned (.tuple #[]) ∧ ∃ d', RowU w base g n cap d a b d' w' ∧ Srtd d' a b := by
  subst hL
  have HO := Lib.hid hoff
  have HW := Lib.hid hw
  have HF := Lib.hid hb
  obtain ⟨q, hq⟩ : ∃ q, q = (h - 1) / 2 := ⟨_, rfl⟩
  have hba : ((a + h : Nat) : Int) - (a : Int) = (h : Int) := by omega
  generalize hB : ((a + h : Nat) : Int) = B at *
  have hd1 : ((h : Int) - 1).tdiv 2 = (q : Int) := by rw [Int.tdiv_eq_ediv_of_nonneg (by omega)]; omega
  have hd2 : ((h : Int) - 1) / 2 = (q : Int) := by omega
  have hqh : q < h := by omega
  have hB' : B ≤ 255 := by omega
  have hah : a + h ≤ 255 := by omega
  have HQ := Lib.hid hq
  clear hoff hw hb hq hB
  go_enter Try.func28, Try.ntmps28
  go_wp2_with fail
  go_loopw [9] (HsU1 w base g n cap d a h (q + 1)) (fun v _ => dn v)
  case atStart => exact ⟨q + 1, d, by congr 1; omega, Nat.le_refl _, RowU.start HW.out _ _, fun c h1 h2 h3 => absurd h3 (by have := HQ.out; omega)⟩
  case round =>
    obtain ⟨t, dk, rfl, htq, hrow, hheap⟩ := hrel
    have HR := Lib.hid hrow
    have HP := Lib.hid hheap
    clear hrow hheap
    by_cases ht : 0 < t
    · obtain ⟨k, rfl⟩ : ∃ k, t = k + 1 := ⟨t - 1, by omega⟩
      rw [show ((k + 1 : Nat) : Int) - 1 = (k : Int) by omega]
      have CS := Lib.hid (sift_u off base g n cap k h a dk wr HO.out HR.out.own HF.out hsz (by omega) HP.out)
      clear HP
      go_wp2_with fail
      refine CS.out.mono ?_
      rintro e w5 ⟨rfl, d5, hr5, hh5⟩
      have HR5 := Lib.hid (HR.out.trans hr5 (Nat.le_refl _) (Nat.le_refl _))
      have HP5 := Lib.hid hh5
      clear hr5 hh5
      go_wp2
      go_roundw
      case rel => exact ⟨k, d5, by congr 1, by omega, HR5.out, HP5.out⟩
      case measure => simp [dn]
    · have ht0 : t = 0 := by omega
      subst ht0
      rw [show ((0 : Nat) : Int) - 1 = -1 by omega]
      go_wp2_with fail
      obtain ⟨wo, rfl⟩ : ∃ wo : World, wo = wr := ⟨_, rfl⟩
      go_loopw [10] (HsU2 w base g n cap d a h) (fun v _ => dn v)
      case atStart => exact ⟨h, dk, rfl, Nat.le_refl _, HR.out, ⟨HP.out, Rest.start _ _ _⟩⟩
      case round =>
        obtain ⟨t, dk, rfl, hth, hrow, hheap⟩ := hrel
        obtain ⟨G, hG⟩ : ∃ G : Nat → Int, ∀ t, G t = ele dk t := ⟨fun t => ele dk t, fun _ => rfl⟩
        have hcw : ∀ t, t < n → wr.cell? ⟨g, off + t, none⟩ = some (.int .u64 (G t)) := fun t ht => by rw [hG, HO.out, Nat.zero_add]; exact hrow.cell t ht
        have hfw : ∀ t, t < n → wr.frozen? ⟨g, off + t, none⟩ = false := fun t _ => by rw [HO.out, Nat.zero_add]; exact hrow.frozen t
        have HG := Lib.hid hG
        have HR := Lib.hid hrow
        have HP := Lib.hid hheap
        clear hrow hheap hG
        by_cases ht : 0 < t
        · obtain ⟨k, rfl⟩ : ∃ k, t = k + 1 := ⟨t - 1, by omega⟩
          rw [show ((k + 1 : Nat) : Int) - 1 = (k : Int) by omega]
          have han : a < n := by have := HF.out; omega
          have hakn : a + k < n := by have := HF.out; omega
          by_cases hk0 : k = 0
          · subst hk0
            go_wp2_with fail
            go_region
            all_goals go_wp2_with fail
            have hr9 : RowU w base g n cap d a (a + h) (swp dk a (a + 0)) ((((wr.setCell ⟨g, off + a, none⟩ (.int .u64 (G a))).setCell ⟨g, off + a, none⟩ (.int .u64 (G a)))).drew) := by
              rw [HG.out, HO.out, Nat.zero_add, Nat.add_zero]
              exact (HR.out.swap ⟨by omega, by omega⟩ ⟨by omega, by omega⟩ HF.out).drewN 1
            obtain ⟨hh9, hrest9⟩ := HP.out.swap (by rw [HR.out.len]; exact HF.out) (by omega)
            have HR9 := Lib.hid hr9
            have HREST := Lib.hid hrest9
            have CS := Lib.hid (sift_u off base g n cap 0 0 a _ _ HO.out hr9.own (by omega) hsz (Nat.zero_le _) hh9)
            clear hr9 hh9 hrest9 hcw hfw HG HR HP
            refine CS.out.mono ?_
            rintro e w5 ⟨rfl, d5, hr5, hh5⟩
            have HR5 := Lib.hid (HR9.out.trans hr5 (Nat.le_refl _) (by omega))
            have HP5 := Lib.hid (show Hps d5 a (a + h) 0 from ⟨hh5, HREST.out.seg hr5.seg (Nat.le_refl _) (by omega) (by rw [HR9.out.len]; exact HF.out)⟩)
            clear hr5 hh5
            go_wp2
            go_roundw
            case rel => exact ⟨0, d5, by congr 1, by omega, HR5.out, HP5.out⟩
            case measure => simp [dn]
          · go_wp2_with fail
            go_region
            all_goals go_wp2_with fail
            have hr9 : RowU w base g n cap d a (a + h) (swp dk a (a + k)) ((((wr.setCell ⟨g, off + a, none⟩ (.int .u64 (G (a + k)))).setCell ⟨g, off + (a + k), none⟩ (.int .u64 (G a)))).drew) := by
              rw [HG.out, HG.out, HO.out, Nat.zero_add, Nat.zero_add]
              exact (HR.out.swap ⟨by omega, by omega⟩ ⟨by omega, by omega⟩ HF.out).drewN 1
            obtain ⟨hh9, hrest9⟩ := HP.out.swap (by rw [HR.out.len]; exact HF.out) (by omega)
            have HR9 := Lib.hid hr9
            have HREST := Lib.hid hrest9
            have CS := Lib.hid (sift_u off base g n cap 0 k a _ _ HO.out hr9.own (by omega) hsz (Nat.zero_le _) hh9)
            clear hr9 hh9 hrest9 hcw hfw HG HR HP
            refine CS.out.mono ?_
            rintro e w5 ⟨rfl, d5, hr5, hh5⟩
            have HR5 := Lib.hid (HR9.out.trans hr5 (Nat.le_refl _) (by omega))
            have HP5 := Lib.hid (show Hps d5 a (a + h) k from ⟨hh5, HREST.out.seg hr5.seg (Nat.le_refl _) (by omega) (by rw [HR9.out.len]; exact HF.out)⟩)
            clear hr5 hh5
            go_wp2
            go_roundw
            case rel => exact ⟨k, d5, by congr 1, by omega, HR5.out, HP5.out⟩
            case measure => simp [dn]
        · have ht0 : t = 0 := by omega
          subst ht0
          rw [show ((0 : Nat) : Int) - 1 = -1 by omega]
          go_wp2
          go_end0
          exact ⟨rfl, dk, HR.out, HP.out.done⟩
end Go.Proofs.Ythnefhkacgkacaa
