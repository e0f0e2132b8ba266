/- pdqsortOrdered's helpers at words: siftDown. -/
import Derived.Test.YthnefhkacgkacaaSrtt
import Derived.Test.YthnefhkacgkacaaSrtl
import Derived.IntWalk
import Derived.Test.YthnefhkacgkacaaQui
namespace Go.Proofs.Ythnefhkacgkacaa
open Go.RowKit

def SiftU (w : World) (base g n cap : Nat) (d0 : List Int) (f h l : Nat) (v : Value) (wr : World) : Prop := ∃ (r : Nat) (d : List Int), v = .int .i64 r ∧ l ≤ r ∧ HeapBut d f h l r ∧ RowU w base g n cap d0 f (f + h) d wr ∧ r ≤ h

set_option maxRecDepth 100000 in
set_option maxHeartbeats 4000000 in
theorem sift_u (off base g n cap l h f : Nat) (d : List Int) (w : World) (hoff : off = 0) (hw : RowW w base g n cap d) (hfh : f + h ≤ n) (hsz : n ≤ 255) (hl : l ≤ h) (hp : Heap d f h (l + 1)) :
    Calls Try.prog 38 #[.slice (some ⟨g, off, none⟩) n cap, .int .i64 l, .int .i64 h, .int .i64 f] w fun e w' =>
      e = .returned (.tuple #[]) ∧ ∃ d', RowU w base g n cap d f (f + h) d' w' ∧ Heap d' f h l := by
  have HO := Lib.hid hoff
  have HP0 := Lib.hid hp
  have HW0 := Lib.hid hw
  have HF := Lib.hid hfh
  have hf255 : f + h ≤ 255 := by omega
  clear hoff hp hw hfh
  go_enter Try.func38, Try.ntmps38
  go_wp2
  go_loopw [8] (SiftU w base g n cap d f h l) (fun v _ => h - cnt v)
  case atStart => exact ⟨l, d, rfl, Nat.le_refl _, HeapBut.start HP0.out, RowU.start HW0.out _ _, hl⟩
  case round =>
    obtain ⟨r, dk, rfl, hlr, hb, hrow, hrh⟩ := hrel
    obtain ⟨G, hG⟩ : ∃ G : Nat → Int, ∀ t, G t = ele dk t := ⟨fun t => ele dk t, fun _ => rfl⟩
    have hcw : ∀ t, t < n → wr.cell? ⟨g, off + t, none⟩ = some (.int .u64 (G t)) := fun t ht => by rw [hG, HO.out, Nat.zero_add]; exact hrow.cell t ht
    have hfw : ∀ t, t < n → wr.frozen? ⟨g, off + t, none⟩ = false := fun t _ => by rw [HO.out, Nat.zero_add]; exact hrow.frozen t
    have HG := Lib.hid hG
    clear hG
    have HB := Lib.hid hb
    have HR := Lib.hid hrow
    have HLR := Lib.hid hlr
    clear hb hrow hlr
    by_cases hc : h ≤ 2 * r + 1
    · have hc' : decide ((h : Int) ≤ 2 * (r : Int) + 1) = true := by simp; omega
      go_wp2
      go_end0
      exact ⟨rfl, dk, HR.out, HB.out.leaf hc⟩
    · have hc' : decide ((h : Int) ≤ 2 * (r : Int) + 1) = false := by simp; omega
      obtain ⟨c, hcr⟩ : ∃ c, c = 2 * r + 1 := ⟨_, rfl⟩
      have hch : c < h := by omega
      have hfc : f + c < n := by have := HF.out; omega
      go_wp2
      rw [show (2 * (r : Int) + 1) = (c : Int) by omega]
      have hr2 : r < c := by omega
      have HC := Lib.hid hcr
      clear hc hc' hcr
      by_cases h2 : c + 1 < h
      · have h2' : decide ((c : Int) + 1 < (h : Int)) = true := by simp; omega
        have hfd : f + (c + 1) < n := by have := HF.out; omega
        go_quiet (first | (go_at_call 33; refine Calls.quiet_of_same (less_u _ _ _)))
        go_wp2
        · have hl0 : ltU (G (f + c)) (G (f + c + 1)) = true := by assumption
          obtain ⟨k, hk⟩ : ∃ k, k = c + 1 := ⟨_, rfl⟩
          rw [show ((c : Int) + 1) = (k : Int) by omega]
          have hmx : ∀ x, 0 < x → x < h → (x - 1) / 2 = r → ele dk (f + x) ≤ ele dk (f + k) := fun x x1 x2 x3 => by
            have e := ltU_t hl0
            rw [HG.out, HG.out] at e
            have := HC.out
            rw [show f + c + 1 = f + k by omega] at e
            by_cases e1 : x = c
            · rw [e1]; omega
            · rw [show x = k by omega]; exact Int.le_refl _
          have hkr : (k - 1) / 2 = r := by have := HC.out; omega
          have hkh : k < h := by omega
          have hrk : r < k := by omega
          clear hl0 hr2 hfc hch h2 h2' hfd hk
          have HKH := Lib.hid hkh
          have HKR := Lib.hid hkr
          have HMX := Lib.hid hmx
          have hfk : f + k < n := by have := HF.out; omega
          have hfr : f + r < n := by have := HF.out; have := HKR.out; omega
          have hwr : IntKind.i64.wrap ((f : Int) + (r : Int)) = (f : Int) + (r : Int) := IntWalk.i64_in _ (by omega)
          have hfr0 : (0 : Int) ≤ (f : Int) + (r : Int) := by omega
          have hfr1 : (f : Int) + (r : Int) < (n : Int) := by omega
          have hfr2 : ((f : Int) + (r : Int)).toNat = f + r := by omega
          clear hkh hkr hmx
          go_quiet (first | (go_at_call 33; exact quiet_add_same (less_u _ _ _)))
          clear hwr hfr0 hfr1 hfr2
          go_wp2
          · have hl : ltU (G (f + r)) (G (f + k)) = false := by simpa using ‹(!ltU (G (f + r)) (G (f + k))) = true›
            refine bodyPost_ret (results_none (by kernel_rfl) _ _ _) rfl ?_
            have hle : ele dk (f + k) ≤ ele dk (f + r) := by have := ltU_f hl; rwa [HG.out, HG.out] at this
            exact ⟨rfl, dk, (HR.out.drewN _).drewN _, HB.out.done (Int.le_trans (HMX.out _ (by omega) (by have := HKH.out; have := HKR.out; omega) (by omega)) hle) (fun h2 => Int.le_trans (HMX.out _ (by omega) h2 (by omega)) hle)⟩
          · have hl : ltU (G (f + r)) (G (f + k)) = true := by simpa using ‹(!ltU (G (f + r)) (G (f + k))) = false›
            have HL := Lib.hid hl
            clear hl
            go_region
            all_goals go_wp2
            go_roundw
            case rel =>
              refine ⟨k, swp dk (f + r) (f + k), rfl, by have := HLR.out; have := HKR.out; omega, ?_, ?_, Nat.le_of_lt HKH.out⟩
              · exact HB.out.step HLR.out (by rw [HR.out.len]; exact HF.out) HKH.out HKR.out (by have := HKR.out; omega) (by have := ltU_t HL.out; rw [HG.out, HG.out] at this; omega) HMX.out
              · rw [HG.out, HG.out, HO.out, Nat.zero_add, Nat.zero_add]
                exact (HR.out.drewN _).swap ⟨by omega, by have := HKH.out; have := HKR.out; omega⟩ ⟨by omega, by have := HKH.out; omega⟩ HF.out
            case measure => simp [cnt]; have := HKR.out; have := HKH.out; omega
        · have hl0 : ltU (G (f + c)) (G (f + c + 1)) = false := by assumption
          have hmx : ∀ x, 0 < x → x < h → (x - 1) / 2 = r → ele dk (f + x) ≤ ele dk (f + c) := fun x x1 x2 x3 => by
            have e := ltU_f hl0
            rw [HG.out, HG.out] at e
            have := HC.out
            by_cases e1 : x = c
            · rw [e1]; exact Int.le_refl _
            · rw [show f + x = f + c + 1 by omega]; exact e
          have hkr : (c - 1) / 2 = r := by have := HC.out; omega
          have hkh : c < h := hch
          clear hl0
          have HKH := Lib.hid hkh
          have HKR := Lib.hid hkr
          have HMX := Lib.hid hmx
          have hfk : f + c < n := by have := HF.out; omega
          have hfr : f + r < n := by have := HF.out; have := HKR.out; omega
          have hwr : IntKind.i64.wrap ((f : Int) + (r : Int)) = (f : Int) + (r : Int) := IntWalk.i64_in _ (by omega)
          have hfr0 : (0 : Int) ≤ (f : Int) + (r : Int) := by omega
          have hfr1 : (f : Int) + (r : Int) < (n : Int) := by omega
          have hfr2 : ((f : Int) + (r : Int)).toNat = f + r := by omega
          clear hkh hkr hmx
          go_quiet (first | (go_at_call 33; exact quiet_add_same (less_u _ _ _)))
          clear hwr hfr0 hfr1 hfr2
          go_wp2
          · have hl : ltU (G (f + r)) (G (f + c)) = false := by simpa using ‹(!ltU (G (f + r)) (G (f + c))) = true›
            refine bodyPost_ret (results_none (by kernel_rfl) _ _ _) rfl ?_
            have hle : ele dk (f + c) ≤ ele dk (f + r) := by have := ltU_f hl; rwa [HG.out, HG.out] at this
            exact ⟨rfl, dk, (HR.out.drewN _).drewN _, HB.out.done (Int.le_trans (HMX.out _ (by omega) (by have := HKH.out; have := HKR.out; omega) (by omega)) hle) (fun h2 => Int.le_trans (HMX.out _ (by omega) h2 (by omega)) hle)⟩
          · have hl : ltU (G (f + r)) (G (f + c)) = true := by simpa using ‹(!ltU (G (f + r)) (G (f + c))) = false›
            have HL := Lib.hid hl
            clear hl
            go_region
            all_goals go_wp2
            go_roundw
            case rel =>
              refine ⟨c, swp dk (f + r) (f + c), rfl, by have := HLR.out; have := HKR.out; omega, ?_, ?_, Nat.le_of_lt HKH.out⟩
              · exact HB.out.step HLR.out (by rw [HR.out.len]; exact HF.out) HKH.out HKR.out (by have := HKR.out; omega) (by have := ltU_t HL.out; rw [HG.out, HG.out] at this; omega) HMX.out
              · rw [HG.out, HG.out, HO.out, Nat.zero_add, Nat.zero_add]
                exact (HR.out.drewN _).swap ⟨by omega, by have := HKH.out; have := HKR.out; omega⟩ ⟨by omega, by have := HKH.out; omega⟩ HF.out
            case measure => simp [cnt]; have := HKR.out; have := HKH.out; omega
      · have h2' : decide ((c : Int) + 1 < (h : Int)) = false := by simp; omega
        go_quiet (first | (go_at_call 33; refine Calls.quiet_of_same (less_u _ _ _)))
        go_wp2
        have hmx : ∀ x, 0 < x → x < h → (x - 1) / 2 = r → ele dk (f + x) ≤ ele dk (f + c) := fun x x1 x2 x3 => by
          have := HC.out
          rw [show x = c by omega]; exact Int.le_refl _
        have hkr : (c - 1) / 2 = r := by have := HC.out; omega
        have hkh : c < h := hch
        have HKH := Lib.hid hkh
        have HKR := Lib.hid hkr
        have HMX := Lib.hid hmx
        have hfk : f + c < n := by have := HF.out; omega
        have hfr : f + r < n := by have := HF.out; have := HKR.out; omega
        have hwr : IntKind.i64.wrap ((f : Int) + (r : Int)) = (f : Int) + (r : Int) := IntWalk.i64_in _ (by omega)
        have hfr0 : (0 : Int) ≤ (f : Int) + (r : Int) := by omega
        have hfr1 : (f : Int) + (r : Int) < (n : Int) := by omega
        have hfr2 : ((f : Int) + (r : Int)).toNat = f + r := by omega
        clear hkh hkr hmx
        go_quiet (first | (go_at_call 33; exact quiet_add_same (less_u _ _ _)))
        clear hwr hfr0 hfr1 hfr2
        go_wp2
        · have hl : ltU (G (f + r)) (G (f + c)) = false := by simpa using ‹(!ltU (G (f + r)) (G (f + c))) = true›
          refine bodyPost_ret (results_none (by kernel_rfl) _ _ _) rfl ?_
          have hle : ele dk (f + c) ≤ ele dk (f + r) := by have := ltU_f hl; rwa [HG.out, HG.out] at this
          exact ⟨rfl, dk, (HR.out.drewN _).drewN _, HB.out.done (Int.le_trans (HMX.out _ (by omega) (by have := HKH.out; have := HKR.out; omega) (by omega)) hle) (fun h2 => Int.le_trans (HMX.out _ (by omega) h2 (by omega)) hle)⟩
        · have hl : ltU (G (f + r)) (G (f + c)) = true := by simpa using ‹(!ltU (G (f + r)) (G (f + c))) = false›
          have HL := Lib.hid hl
          clear hl
          go_region
          all_goals go_wp2
          go_roundw
          case rel =>
            refine ⟨c, swp dk (f + r) (f + c), rfl, by have := HLR.out; have := HKR.out; omega, ?_, ?_, Nat.le_of_lt HKH.out⟩
            · exact HB.out.step HLR.out (by rw [HR.out.len]; exact HF.out) HKH.out HKR.out (by have := HKR.out; omega) (by have := ltU_t HL.out; rw [HG.out, HG.out] at this; omega) HMX.out
            · rw [HG.out, HG.out, HO.out, Nat.zero_add, Nat.zero_add]
              exact (HR.out.drewN _).swap ⟨by omega, by have := HKH.out; have := HKR.out; omega⟩ ⟨by omega, by have := HKH.out; omega⟩ HF.out
          case measure => simp [cnt]; have := HKR.out; have := HKH.out; omega
end Go.Proofs.Ythnefhkacgkacaa
