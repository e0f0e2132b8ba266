/- pdqsortOrdered's helpers at words: partialInsertionSort. -/
import Derived.Test.YthnefhkacgkacaaSrtg
namespace Go.Proofs.Ythnefhkacgkacaa
open Go.RowKit

theorem Srtd.snoc {d : List Int} {a i : Nat} (h : Srtd d a i) (hle : a < i → ele d (i - 1) ≤ ele d i) : Srtd d a (i + 1) := by
  intro p q h1 h2 h3
  by_cases e : q = i
  · subst e
    have e2 := hle (by omega)
    by_cases ep : p = q - 1
    · rw [ep]; exact e2
    · exact Int.le_trans (h p (q - 1) h1 (by omega) (by omega)) e2
  · exact h p q h1 h2 (by omega)

theorem Srtd.swp_above {d : List Int} {a i x y : Nat} (h : Srtd d a i) (hx : i ≤ x ∧ x < d.length) (hy : i ≤ y ∧ y < d.length) : Srtd (swp d x y) a i := by
  have hs := fun k => swp_ele (d := d) (i := x) (j := y) hx.2 hy.2 k
  intro p q h1 h2 h3
  rw [hs, hs, if_neg (by omega), if_neg (by omega), if_neg (by omega), if_neg (by omega)]
  exact h p q h1 h2 h3
theorem Srtd.less {d : List Int} {a i k : Nat} (h : Srtd d a i) (hk : k ≤ i) : Srtd d a k := fun p q h1 h2 h3 => h p q h1 h2 (by omega)

def PtlyIs (w : World) (base g n cap a b : Nat) (d : List Int) (e : Ending) (w' : World) : Prop :=
  ∃ (c : Bool) (d' : List Int), e = .returned (.bool c) ∧ RowU w base g n cap d a b d' w' ∧ (c = true → Srtd d' a b)

def PiU (w : World) (base g n cap : Nat) (d0 : List Int) (a b : Nat) (v u : Value) (wr : World) : Prop := ∃ (i j : Nat) (d : List Int), v = .int .i64 i ∧ u = .int .i64 j ∧ j ≤ 5 ∧ a < i ∧ i ≤ b ∧ RowU w base g n cap d0 a b d wr ∧ Srtd d a i
def PiS (w : World) (base g n cap : Nat) (d0 : List Int) (a b : Nat) (d : List Int) (v : Value) (wr : World) : Prop := ∃ (i : Nat), v = .int .i64 i ∧ a < i ∧ i ≤ b ∧ RowU w base g n cap d0 a b d wr ∧ Srtd d a i
def PiL (w : World) (base g n cap : Nat) (d0 : List Int) (a b i : Nat) (v : Value) (wr : World) : Prop := ∃ (j : Nat) (d : List Int), v = .int .i64 j ∧ a ≤ j ∧ j ≤ i ∧ RowU w base g n cap d0 a b d wr ∧ Ins d a i j
def PiR (w : World) (base g n cap : Nat) (d0 : List Int) (a b i : Nat) (v : Value) (wr : World) : Prop := ∃ (j : Nat) (d : List Int), v = .int .i64 j ∧ i < j ∧ j ≤ b ∧ RowU w base g n cap d0 a b d wr ∧ Srtd d a i

set_option maxRecDepth 100000 in
set_option maxHeartbeats 16000000 in
theorem partial_u (off base g n cap a b : Nat) (d : List Int) (w : World) (hoff : off = 0) (hw : RowW w base g n cap d) (hab : a + 12 < b) (hb : b ≤ n) (hsz : n ≤ 255) (hlow : Low d a b) :
    Calls Try.prog 32 #[.slice (some ⟨g, off, none⟩) n cap, .int .i64 a, .int .i64 b] w (PtlyIs w base g n cap a b d) := by
  have HO := Lib.hid hoff
  have HW := Lib.hid hw
  have HB := Lib.hid hb
  have HAB := Lib.hid hab
  have HLOW := Lib.hid (show ∀ d' wr, RowU w base g n cap d a b d' wr → Low d' a b from fun d' wr hr => hlow.seg hr.seg (by rw [hr.len0]; exact hb))
  have hb255 : b ≤ 255 := by omega
  clear hoff hw hlow
  go_enter Try.func32, Try.ntmps32
  go_wp2_with fail
  go_loopw [7, 8] (PiU w base g n cap d a b) (fun _ u _ => 5 - cnt u)
  case atStart => exact ⟨a + 1, 0, d, by go_num, rfl, by omega, by omega, by omega, RowU.start HW.out _ _, fun p q h1 h2 h3 => by omega⟩
  case round =>
    obtain ⟨i, j, dk, rfl, rfl, hj5, hai, hib, hrow, hs⟩ := hrel
    have HRK := Lib.hid hrow
    have HSK := Lib.hid hs
    clear hrow hs
    by_cases hj : j < 5
    · have hj' : decide ((j : Int) < 5) = true := by simp; omega
      have HJ5 := Lib.hid hj
      have HAI0 := Lib.hid hai
      have HIB0 := Lib.hid hib
      go_wp2_with fail
      clear hj5 hai hib
      obtain ⟨wo, rfl⟩ : ∃ wo : World, wo = wr := ⟨_, rfl⟩
      go_loopw [7] (PiS w base g n cap d a b dk) (fun v _ => b + 1 - cnt v)
      case atStart => exact ⟨i, rfl, HAI0.out, HIB0.out, HRK.out, HSK.out⟩
      case round =>
        obtain ⟨i', rfl, hai, hib, hr1, hs1⟩ := hrel
        obtain ⟨G, hG⟩ : ∃ G : Nat → Int, ∀ t, G t = ele dk t := ⟨fun t => ele dk t, fun _ => rfl⟩
        have hcw : ∀ t, t < n → wr.cell? ⟨g, off + t, none⟩ = some (.int .u64 (G t)) := fun t ht => by rw [hG, HO.out, Nat.zero_add]; exact hr1.cell t ht
        have hfw : ∀ t, t < n → wr.frozen? ⟨g, off + t, none⟩ = false := fun t _ => by rw [HO.out, Nat.zero_add]; exact hr1.frozen t
        have HG := Lib.hid hG
        clear hG
        have HR1 := Lib.hid hr1
        have HS1 := Lib.hid hs1
        have HAI := Lib.hid hai
        clear hr1 hs1
        by_cases hlt : i' < b
        · have HIB := Lib.hid hlt
          have hin : i' < n := by have := HB.out; omega
          have hi1 : 1 ≤ i' := by omega
          go_wp2
          go_quiet (first | (go_at_call 33; refine Calls.quiet_of_same (less_u _ _ _)))
          go_wp2_with fail
          · have hl : ltU (G i') (G (i' - 1)) = false := by simpa using ‹(!ltU (G i') (G (i' - 1))) = true›
            go_roundw
            case rel => exact ⟨i' + 1, by go_num, by omega, by omega, HR1.out.drewN _, HS1.out.snoc (fun _ => by have := ltU_f hl; rwa [HG.out, HG.out] at this)⟩
            case measure => simp [cnt]; omega
          · go_ret
            exact ⟨false, dk, rfl, HR1.out.drewN _, fun h => by cases h⟩
          · have hl : ltU (G i') (G (i' - 1)) = true := by simpa using ‹(!ltU (G i') (G (i' - 1))) = false›
            have h50 : (50 : Int) ≤ (b : Int) - (a : Int) := by assumption
            have hdd : decide ((b : Int) - (a : Int) < 50) = false := by simp; omega
            simp only [hl, hdd, Bool.not_true]
            clear hl hdd
            by_cases hle : a + 2 ≤ i'
            · have hle' : decide ((2 : Int) ≤ (i' : Int) - (a : Int)) = true := by simp; omega
              go_region
              all_goals go_wp2_with fail
              have hr9 : RowU w base g n cap d a b (swp dk i' (i' - 1)) (((wr.drewN (nq + 1)).setCell ⟨g, off + i', none⟩ (.int .u64 (G (i' - 1)))).setCell ⟨g, off + (i' - 1), none⟩ (.int .u64 (G i'))) := by
                rw [HG.out, HG.out, HO.out, Nat.zero_add, Nat.zero_add]
                exact (HR1.out.drewN _).swap ⟨by omega, by omega⟩ ⟨by omega, by omega⟩ HB.out
              have HRX := Lib.hid hr9
              have HSX := Lib.hid (show Srtd (swp dk i' (i' - 1)) a (i' - 1) from (HS1.out.less (by omega)).swp_above ⟨by omega, by rw [HR1.out.len]; omega⟩ ⟨by omega, by rw [HR1.out.len]; omega⟩)
              clear hr9 hcw hfw HG HR1 HS1
              obtain ⟨wo2, rfl⟩ : ∃ wo2 : World, wo2 = wr := ⟨_, rfl⟩
              go_loopw [9] (PiL w base g n cap d a b (i' - 1)) (fun v _ => cnt v)
              case atStart => exact ⟨i' - 1, _, by congr 1; omega, by omega, Nat.le_refl _, HRX.out, Ins.start (HSX.out)⟩
              case round =>
                clear HRX HSX
                obtain ⟨j2, d2, rfl, haj2, hji2, hr2, hin2⟩ := hrel
                obtain ⟨G, hG⟩ : ∃ G : Nat → Int, ∀ t, G t = ele d2 t := ⟨fun t => ele d2 t, fun _ => rfl⟩
                have hcw : ∀ t, t < n → wr.cell? ⟨g, off + t, none⟩ = some (.int .u64 (G t)) := fun t ht => by rw [hG, HO.out, Nat.zero_add]; exact hr2.cell t ht
                have hfw : ∀ t, t < n → wr.frozen? ⟨g, off + t, none⟩ = false := fun t _ => by rw [HO.out, Nat.zero_add]; exact hr2.frozen t
                have HG := Lib.hid hG
                clear hG
                have HR2 := Lib.hid hr2
                have HIN := Lib.hid hin2
                clear hr2 hin2
                by_cases hj2 : 1 ≤ j2
                · have hj2n : j2 < n := by have := HB.out; omega
                  go_wp2
                  go_quiet (first | (go_at_call 33; refine Calls.quiet_of_same (less_u _ _ _)))
                  by_cases hri : i' + 2 ≤ b
                  · have hri' : decide ((2 : Int) ≤ (b : Int) - (i' : Int)) = true := by simp; omega
                    go_wp2_with fail
                    · have hlx2 : (!ltU (G j2) (G (j2 - 1))) = true := by assumption
                      have hl : ltU (G j2) (G (j2 - 1)) = false := by simpa using hlx2
                      have hs9 : Srtd d2 a i' := by
                        have e1 : i' - 1 + 1 = i' := by omega
                        by_cases e : j2 = a
                        · have := HIN.out
                          rw [e] at this
                          rw [← e1]; exact this.done0
                        · rw [← e1]
                          refine HIN.out.done ?_
                          have := ltU_f hl
                          rwa [HG.out, HG.out] at this
                      have HRX := Lib.hid (HR2.out.drewN nq)
                      have HSX := Lib.hid hs9
                      try simp only [hl, Bool.not_false]
                      clear hs9 hl hlx2 hcw hfw HG
                      obtain ⟨wo3, rfl⟩ : ∃ wo3 : World, wo3 = wr := ⟨_, rfl⟩
                      go_loopw [10] (PiR w base g n cap d a b i') (fun v _ => b + 1 - cnt v)
                      case atStart => exact ⟨i' + 1, _, by go_num, by omega, by omega, HRX.out, HSX.out⟩
                      case round =>
                        obtain ⟨j3, d3, rfl, hij3, hj3b, hr3, hs3⟩ := hrel
                        obtain ⟨G, hG⟩ : ∃ G : Nat → Int, ∀ t, G t = ele d3 t := ⟨fun t => ele d3 t, fun _ => rfl⟩
                        have hcw : ∀ t, t < n → wr.cell? ⟨g, off + t, none⟩ = some (.int .u64 (G t)) := fun t ht => by rw [hG, HO.out, Nat.zero_add]; exact hr3.cell t ht
                        have hfw : ∀ t, t < n → wr.frozen? ⟨g, off + t, none⟩ = false := fun t _ => by rw [HO.out, Nat.zero_add]; exact hr3.frozen t
                        have HG := Lib.hid hG
                        clear hG
                        have HR3 := Lib.hid hr3
                        have HS3 := Lib.hid hs3
                        have HIJ3 := Lib.hid hij3
                        clear hr3 hs3
                        by_cases hj3 : j3 < b
                        · have hj3n : j3 < n := by have := HB.out; omega
                          have hj31 : 1 ≤ j3 := by omega
                          go_wp2
                          go_quiet (first | (go_at_call 33; refine Calls.quiet_of_same (less_u _ _ _)))
                          go_wp2
                          · go_roundw
                            case rel => exact ⟨i', j + 1, d3, rfl, by go_num, by have := HJ5.out; omega, HAI.out, by have := HIB.out; omega, HR3.out.drewN _, HS3.out⟩
                            case measure => simp [cnt]; have := HJ5.out; omega
                          · go_region
                            all_goals go_wp2
                            go_roundw
                            case rel =>
                              refine ⟨j3 + 1, swp d3 j3 (j3 - 1), by go_num, by omega, by omega, ?_, HS3.out.swp_above ⟨by omega, by rw [HR3.out.len]; omega⟩ ⟨by omega, by rw [HR3.out.len]; omega⟩⟩
                              rw [HG.out, HG.out, HO.out, Nat.zero_add, Nat.zero_add]
                              exact (HR3.out.drewN _).swap ⟨by have := HAI.out; omega, by omega⟩ ⟨by have := HAI.out; omega, by omega⟩ HB.out
                            case measure => simp [cnt]; omega
                        · go_wp2
                          go_roundw
                          case rel => exact ⟨i', j + 1, d3, rfl, by go_num, by have := HJ5.out; omega, HAI.out, by have := HIB.out; omega, HR3.out, HS3.out⟩
                          case measure => simp [cnt]; have := HJ5.out; omega
                    · have hlx : ltU (G j2) (G (j2 - 1)) = true := by simpa using ‹(!ltU (G j2) (G (j2 - 1))) = false›
                      have hlx1 := ltU_t hlx
                      have hlow : a < j2 := by
                        rcases Nat.lt_or_ge a j2 with h | h
                        · exact h
                        · have e : j2 = a := by omega
                          have h2 := HLOW.out _ _ HR2.out a (by omega) (Nat.le_refl _) (by omega)
                          rw [HG.out, HG.out, e] at hlx1
                          exact absurd hlx1 (by omega)
                      have HLX := Lib.hid hlx1
                      clear hlx1 hlx
                      go_region
                      all_goals go_wp2
                      go_roundw
                      case rel =>
                        refine ⟨j2 - 1, swp d2 j2 (j2 - 1), by congr 1; omega, by omega, by omega, ?_, HIN.out.step hlow hji2 (by rw [HR2.out.len]; omega) (by have := HLX.out; rwa [HG.out, HG.out] at this)⟩
                        rw [HG.out, HG.out, HO.out, Nat.zero_add, Nat.zero_add]
                        exact (HR2.out.drewN _).swap ⟨by omega, by omega⟩ ⟨by omega, by omega⟩ HB.out
                      case measure => simp [cnt]; omega
                  · have hri' : decide ((2 : Int) ≤ (b : Int) - (i' : Int)) = false := by simp; omega
                    go_wp2_with fail
                    · have hlx2 : (!ltU (G j2) (G (j2 - 1))) = true := by assumption
                      have hl : ltU (G j2) (G (j2 - 1)) = false := by simpa using hlx2
                      have hs9 : Srtd d2 a i' := by
                        have e1 : i' - 1 + 1 = i' := by omega
                        by_cases e : j2 = a
                        · have := HIN.out
                          rw [e] at this
                          rw [← e1]; exact this.done0
                        · rw [← e1]
                          refine HIN.out.done ?_
                          have := ltU_f hl
                          rwa [HG.out, HG.out] at this
                      have HRX := Lib.hid (HR2.out.drewN nq)
                      have HSX := Lib.hid hs9
                      try simp only [hl, Bool.not_false]
                      clear hs9 hl hlx2 hcw hfw HG
                      go_roundw
                      case rel => exact ⟨i', j + 1, _, rfl, by go_num, by have := HJ5.out; omega, HAI.out, by have := HIB.out; omega, HRX.out, HSX.out⟩
                      case measure => simp [cnt]; have := HJ5.out; omega
                    · have hlx : ltU (G j2) (G (j2 - 1)) = true := by simpa using ‹(!ltU (G j2) (G (j2 - 1))) = false›
                      have hlx1 := ltU_t hlx
                      have hlow : a < j2 := by
                        rcases Nat.lt_or_ge a j2 with h | h
                        · exact h
                        · have e : j2 = a := by omega
                          have h2 := HLOW.out _ _ HR2.out a (by omega) (Nat.le_refl _) (by omega)
                          rw [HG.out, HG.out, e] at hlx1
                          exact absurd hlx1 (by omega)
                      have HLX := Lib.hid hlx1
                      clear hlx1 hlx
                      go_region
                      all_goals go_wp2
                      go_roundw
                      case rel =>
                        refine ⟨j2 - 1, swp d2 j2 (j2 - 1), by congr 1; omega, by omega, by omega, ?_, HIN.out.step hlow hji2 (by rw [HR2.out.len]; omega) (by have := HLX.out; rwa [HG.out, HG.out] at this)⟩
                        rw [HG.out, HG.out, HO.out, Nat.zero_add, Nat.zero_add]
                        exact (HR2.out.drewN _).swap ⟨by omega, by omega⟩ ⟨by omega, by omega⟩ HB.out
                      case measure => simp [cnt]; omega
                · have hj0 : j2 = 0 := by omega
                  have HRX := HR2
                  have HSX := Lib.hid (show Srtd d2 a i' from by
                    have e1 : i' - 1 + 1 = i' := by omega
                    have e : a = 0 := by omega
                    have := HIN.out
                    rw [hj0] at this
                    rw [← e1, e]
                    rw [e] at this
                    exact this.done0)
                  clear hcw hfw HG
                  subst hj0
                  by_cases hri : i' + 2 ≤ b
                  · have hri' : decide ((2 : Int) ≤ (b : Int) - (i' : Int)) = true := by simp; omega
                    go_wp2_with fail
                    obtain ⟨wo3, rfl⟩ : ∃ wo3 : World, wo3 = wr := ⟨_, rfl⟩
                    go_loopw [10] (PiR w base g n cap d a b i') (fun v _ => b + 1 - cnt v)
                    case atStart => exact ⟨i' + 1, _, by go_num, by omega, by omega, HRX.out, HSX.out⟩
                    case round =>
                      obtain ⟨j3, d3, rfl, hij3, hj3b, hr3, hs3⟩ := hrel
                      obtain ⟨G, hG⟩ : ∃ G : Nat → Int, ∀ t, G t = ele d3 t := ⟨fun t => ele d3 t, fun _ => rfl⟩
                      have hcw : ∀ t, t < n → wr.cell? ⟨g, off + t, none⟩ = some (.int .u64 (G t)) := fun t ht => by rw [hG, HO.out, Nat.zero_add]; exact hr3.cell t ht
                      have hfw : ∀ t, t < n → wr.frozen? ⟨g, off + t, none⟩ = false := fun t _ => by rw [HO.out, Nat.zero_add]; exact hr3.frozen t
                      have HG := Lib.hid hG
                      clear hG
                      have HR3 := Lib.hid hr3
                      have HS3 := Lib.hid hs3
                      have HIJ3 := Lib.hid hij3
                      clear hr3 hs3
                      by_cases hj3 : j3 < b
                      · have hj3n : j3 < n := by have := HB.out; omega
                        have hj31 : 1 ≤ j3 := by omega
                        go_wp2
                        go_quiet (first | (go_at_call 33; refine Calls.quiet_of_same (less_u _ _ _)))
                        go_wp2
                        · go_roundw
                          case rel => exact ⟨i', j + 1, d3, rfl, by go_num, by have := HJ5.out; omega, HAI.out, by have := HIB.out; omega, HR3.out.drewN _, HS3.out⟩
                          case measure => simp [cnt]; have := HJ5.out; omega
                        · go_region
                          all_goals go_wp2
                          go_roundw
                          case rel =>
                            refine ⟨j3 + 1, swp d3 j3 (j3 - 1), by go_num, by omega, by omega, ?_, HS3.out.swp_above ⟨by omega, by rw [HR3.out.len]; omega⟩ ⟨by omega, by rw [HR3.out.len]; omega⟩⟩
                            rw [HG.out, HG.out, HO.out, Nat.zero_add, Nat.zero_add]
                            exact (HR3.out.drewN _).swap ⟨by have := HAI.out; omega, by omega⟩ ⟨by have := HAI.out; omega, by omega⟩ HB.out
                          case measure => simp [cnt]; omega
                      · go_wp2
                        go_roundw
                        case rel => exact ⟨i', j + 1, d3, rfl, by go_num, by have := HJ5.out; omega, HAI.out, by have := HIB.out; omega, HR3.out, HS3.out⟩
                        case measure => simp [cnt]; have := HJ5.out; omega
                  · have hri' : decide ((2 : Int) ≤ (b : Int) - (i' : Int)) = false := by simp; omega
                    go_wp2
                    go_roundw
                    case rel => exact ⟨i', j + 1, _, rfl, by go_num, by have := HJ5.out; omega, HAI.out, by have := HIB.out; omega, HRX.out, HSX.out⟩
                    case measure => simp [cnt]; have := HJ5.out; omega
            · have hle' : decide ((2 : Int) ≤ (i' : Int) - (a : Int)) = false := by simp; omega
              go_region
              have hr9 : RowU w base g n cap d a b (swp dk i' (i' - 1)) (((wr.drewN (nq + 1)).setCell ⟨g, off + i', none⟩ (.int .u64 (G (i' - 1)))).setCell ⟨g, off + (i' - 1), none⟩ (.int .u64 (G i'))) := by
                rw [HG.out, HG.out, HO.out, Nat.zero_add, Nat.zero_add]
                exact (HR1.out.drewN _).swap ⟨by omega, by omega⟩ ⟨by omega, by omega⟩ HB.out
              have HRX := Lib.hid hr9
              have HSX := Lib.hid (show Srtd (swp dk i' (i' - 1)) a (i' - 1) from (HS1.out.less (by omega)).swp_above ⟨by omega, by rw [HR1.out.len]; omega⟩ ⟨by omega, by rw [HR1.out.len]; omega⟩)
              clear hr9 hcw hfw HG HR1 HS1
              have HSX := Lib.hid (show Srtd (swp dk i' (i' - 1)) a i' from fun p q h1 h2 h3 => by omega)
              by_cases hri : i' + 2 ≤ b
              · have hri' : decide ((2 : Int) ≤ (b : Int) - (i' : Int)) = true := by simp; omega
                go_wp2_with fail
                obtain ⟨wo3, rfl⟩ : ∃ wo3 : World, wo3 = wr := ⟨_, rfl⟩
                go_loopw [10] (PiR w base g n cap d a b i') (fun v _ => b + 1 - cnt v)
                case atStart => exact ⟨i' + 1, _, by go_num, by omega, by omega, HRX.out, HSX.out⟩
                case round =>
                  obtain ⟨j3, d3, rfl, hij3, hj3b, hr3, hs3⟩ := hrel
                  obtain ⟨G, hG⟩ : ∃ G : Nat → Int, ∀ t, G t = ele d3 t := ⟨fun t => ele d3 t, fun _ => rfl⟩
                  have hcw : ∀ t, t < n → wr.cell? ⟨g, off + t, none⟩ = some (.int .u64 (G t)) := fun t ht => by rw [hG, HO.out, Nat.zero_add]; exact hr3.cell t ht
                  have hfw : ∀ t, t < n → wr.frozen? ⟨g, off + t, none⟩ = false := fun t _ => by rw [HO.out, Nat.zero_add]; exact hr3.frozen t
                  have HG := Lib.hid hG
                  clear hG
                  have HR3 := Lib.hid hr3
                  have HS3 := Lib.hid hs3
                  have HIJ3 := Lib.hid hij3
                  clear hr3 hs3
                  by_cases hj3 : j3 < b
                  · have hj3n : j3 < n := by have := HB.out; omega
                    have hj31 : 1 ≤ j3 := by omega
                    go_wp2
                    go_quiet (first | (go_at_call 33; refine Calls.quiet_of_same (less_u _ _ _)))
                    go_wp2
                    · go_roundw
                      case rel => exact ⟨i', j + 1, d3, rfl, by go_num, by have := HJ5.out; omega, HAI.out, by have := HIB.out; omega, HR3.out.drewN _, HS3.out⟩
                      case measure => simp [cnt]; have := HJ5.out; omega
                    · go_region
                      all_goals go_wp2
                      go_roundw
                      case rel =>
                        refine ⟨j3 + 1, swp d3 j3 (j3 - 1), by go_num, by omega, by omega, ?_, HS3.out.swp_above ⟨by omega, by rw [HR3.out.len]; omega⟩ ⟨by omega, by rw [HR3.out.len]; omega⟩⟩
                        rw [HG.out, HG.out, HO.out, Nat.zero_add, Nat.zero_add]
                        exact (HR3.out.drewN _).swap ⟨by have := HAI.out; omega, by omega⟩ ⟨by have := HAI.out; omega, by omega⟩ HB.out
                      case measure => simp [cnt]; omega
                  · go_wp2
                    go_roundw
                    case rel => exact ⟨i', j + 1, d3, rfl, by go_num, by have := HJ5.out; omega, HAI.out, by have := HIB.out; omega, HR3.out, HS3.out⟩
                    case measure => simp [cnt]; have := HJ5.out; omega
              · have hri' : decide ((2 : Int) ≤ (b : Int) - (i' : Int)) = false := by simp; omega
                go_wp2
                go_roundw
                case rel => exact ⟨i', j + 1, _, rfl, by go_num, by have := HJ5.out; omega, HAI.out, by have := HIB.out; omega, HRX.out, HSX.out⟩
                case measure => simp [cnt]; have := HJ5.out; omega
        · have hie : i' = b := by omega
          subst hie
          go_wp2
          go_quiet (first | (go_at_call 33; refine Calls.quiet_of_same (less_u _ _ _)))
          go_wp2
          go_ret
          exact ⟨true, dk, rfl, HR1.out.drewN _, fun _ => HS1.out⟩
    · have hj' : decide ((j : Int) < 5) = false := by simp; omega
      go_wp2
      go_ret
      exact ⟨false, dk, rfl, HRK.out, fun h => by cases h⟩
end Go.Proofs.Ythnefhkacgkacaa
