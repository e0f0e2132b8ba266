/- pdqsortOrdered's helpers at words: partition. -/
import Derived.Test.YthnefhkacgkacaaSrte
namespace Go.Proofs.Ythnefhkacgkacaa
open Go.RowKit

/-- A partition done: the pivot is put in its place. -/
theorem part_fin {pv : Int} {d : List Int} {a b i j : Nat} (h : Part (· < pv) (pv ≤ ·) pv d a b i j) (hb : b ≤ d.length) (hji : i = j + 1) :
    a ≤ j ∧ j < b ∧ (∀ k, a ≤ k → k < j → ele (swp d j a) k ≤ ele (swp d j a) j) ∧ (∀ k, j < k → k < b → ele (swp d j a) j ≤ ele (swp d j a) k) := by
  have hai := h.ai
  have hjb := h.jb
  have hs := fun k => swp_ele (d := d) (i := j) (j := a) (by omega) (by omega) k
  have hjv : ele (swp d j a) j = pv := by
    rw [hs]
    by_cases e : j = a
    · rw [if_pos e, e]; exact h.piv
    · rw [if_neg e, if_pos rfl]; exact h.piv
  refine ⟨by omega, hjb, fun k h1 h2 => ?_, fun k h1 h2 => ?_⟩
  · rw [hjv, hs]
    by_cases e : k = a
    · rw [if_pos e]; exact Int.le_of_lt (h.lo j (by omega) (by omega))
    · rw [if_neg e, if_neg (by omega : ¬ k = j)]; exact Int.le_of_lt (h.lo k (by omega) (by omega))
  · rw [hjv, hs, if_neg (by omega : ¬ k = a), if_neg (by omega : ¬ k = j)]; exact h.hi k h1 h2

def PartIs (w : World) (base g n cap a b : Nat) (d : List Int) (e : Ending) (w' : World) : Prop :=
  ∃ (m : Nat) (d' : List Int) (c : Bool), e = .returned (.tuple #[.int .i64 m, .bool c]) ∧ RowU w base g n cap d a b d' w' ∧ a ≤ m ∧ m < b ∧ (∀ k, a ≤ k → k < m → ele d' k ≤ ele d' m) ∧ (∀ k, m < k → k < b → ele d' m ≤ ele d' k)

set_option maxRecDepth 100000 in
set_option maxHeartbeats 16000000 in
theorem part_u (off base g n cap a b p : Nat) (d : List Int) (w : World) (hoff : off = 0) (h : RowW w base g n cap d) (hap : a ≤ p) (hpb : p < b) (hb : b ≤ n) (hsz : n ≤ 255) :
    Calls Try.prog 35 #[.slice (some ⟨g, off, none⟩) n cap, .int .i64 a, .int .i64 b, .int .i64 p] w (PartIs w base g n cap a b d) := by
  have HO := Lib.hid hoff
  have hrow := RowU.start h a b
  have HR := Lib.hid hrow
  have HPB := Lib.hid hpb
  have HAP := Lib.hid hap
  have HB := Lib.hid hb
  have hpn : p < n := by omega
  have han : a < n := by omega
  have hb255 : b ≤ 255 := by omega
  obtain ⟨wr, hwr⟩ : ∃ wr, wr = w := ⟨_, rfl⟩
  rw [← hwr] at hrow
  obtain ⟨G, hG⟩ : ∃ G : Nat → Int, ∀ t, G t = ele d t := ⟨fun t => ele d t, fun _ => rfl⟩
  have hcw : ∀ t, t < n → wr.cell? ⟨g, off + t, none⟩ = some (.int .u64 (G t)) := fun t ht => by rw [hG, HO.out, Nat.zero_add]; exact hrow.cell t ht
  have hfw : ∀ t, t < n → wr.frozen? ⟨g, off + t, none⟩ = false := fun t _ => by rw [HO.out, Nat.zero_add]; exact hrow.frozen t
  have HG := Lib.hid hG
  clear hG
  rw [hwr] at hcw hfw
  clear hrow h hoff hap hpb hb hwr wr
  go_enter Try.func35, Try.ntmps35
  by_cases hpa : p = a
  · have hpa' := hpa.symm
    subst hpa'
    go_wp2
    go_region
    all_goals go_wp2
    have hw1 : RowU w base g n cap d a b (swp d a a) (((w.drewN 1).setCell ⟨g, off + a, none⟩ (.int .u64 (G a))).setCell ⟨g, off + a, none⟩ (.int .u64 (G a))) := by
      rw [HG.out, HO.out, Nat.zero_add]
      exact (HR.out.drewN 1).swap ⟨Nat.le_refl _, by have := HAP.out; have := HPB.out; omega⟩ ⟨HAP.out, HPB.out⟩ HB.out
    have hp1 : Part (· < ele d a) (ele d a ≤ ·) (ele d a) (swp d a a) a b (a + 1) (b - 1) := Part.start (by rw [swp_ele (by rw [HR.out.len]; exact han) (by rw [HR.out.len]; exact han), if_pos rfl]) (by have := HAP.out; have := HPB.out; omega)
    have H1R := Lib.hid hw1
    have H1P := Lib.hid hp1
    obtain ⟨i, hi⟩ : ∃ i, i = a + 1 := ⟨_, rfl⟩
    obtain ⟨j, hj⟩ : ∃ j, j = b - 1 := ⟨_, rfl⟩
    rw [show ((a : Int) + 1) = (i : Int) by omega, show ((b : Int) - 1) = (j : Int) by have := HAP.out; have := HPB.out; omega]
    rw [← hi, ← hj] at hp1
    have HP := Lib.hid hp1
    obtain ⟨dk, hdk⟩ : ∃ dk, dk = swp d a a := ⟨_, rfl⟩
    rw [← hdk] at hw1 hp1
    have HP := Lib.hid hp1
    have HRK := Lib.hid hw1
    have hjn : j < n := by have := HB.out; omega
    have hj255 : j < 255 := by omega
    have hin0 : (i : Int) < 300 := by omega
    clear hw1 hp1 hcw hfw HG H1R H1P hi hj hdk
    go_loopw [10] (PtI w base g n cap (· < ele d a) (ele d a ≤ ·) (ele d a) d a b j i dk) (fun v _ => j + 1 - cnt v)
    case atStart => exact ⟨i, rfl, Nat.le_refl _, HP.out, HRK.out⟩
    case round =>
      obtain ⟨i', rfl, hi0, hp1, hr1⟩ := hrel
      have HI0 := Lib.hid hi0
      obtain ⟨G, hG⟩ : ∃ G : Nat → Int, ∀ t, G t = ele dk t := ⟨fun t => ele dk t, fun _ => rfl⟩
      have hcw : ∀ t, t < n → wr.cell? ⟨g, off + t, none⟩ = some (.int .u64 (G t)) := fun t ht => by rw [hG, HO.out, Nat.zero_add]; exact hr1.cell t ht
      have hfw : ∀ t, t < n → wr.frozen? ⟨g, off + t, none⟩ = false := fun t _ => by rw [HO.out, Nat.zero_add]; exact hr1.frozen t
      have HG := Lib.hid hG
      clear hG
      have HP1 := Lib.hid hp1
      have HR1 := Lib.hid hr1
      have hin : (i' : Int) < 300 := by have := hp1.ij; have := hp1.jb; omega
      clear hp1 hr1 hi0
      go_wp2
      by_cases hij : i' ≤ j
      · have hi'n : i' < n := by omega
        go_quiet (first | (go_at_call 33; refine Calls.quiet_of_same (less_u _ _ _)))
        go_wp2
        · have hl : ltU (G i') (G a) = true := by assumption
          go_roundw
          case rel => exact ⟨i' + 1, by go_num, by have := HI0.out; omega, HP1.out.up hij (by have := ltU_t hl; rw [HG.out, HG.out, HP1.out.piv] at this; exact this), HR1.out.drewN _⟩
          case measure => simp [cnt]; omega
        · have hl : ltU (G i') (G a) = false := by assumption
          have HX := Lib.hid (show i' ≤ j → ele d a ≤ ele dk i' from fun _ => by have := ltU_f hl; rw [HG.out, HG.out, HP1.out.piv] at this; exact this)
          have HPP := HP1
          have HRR := Lib.hid (HR1.out.drewN nq)
          simp only [hl]
          clear hcw hfw HG hl hij
          go_loopw [11] (PtJ w base g n cap (· < ele d a) (ele d a ≤ ·) (ele d a) d a b i' j dk) (fun u _ => cnt u)
          case atStart => exact ⟨j, rfl, Nat.le_refl _, HPP.out, HRR.out, HX.out⟩
          case round =>
            obtain ⟨j', rfl, hj0, hp2, hr2, hx2⟩ := hrel
            have HJ0 := Lib.hid hj0
            obtain ⟨G, hG⟩ : ∃ G : Nat → Int, ∀ t, G t = ele dk t := ⟨fun t => ele dk t, fun _ => rfl⟩
            have hcw : ∀ t, t < n → wr.cell? ⟨g, off + t, none⟩ = some (.int .u64 (G t)) := fun t ht => by rw [hG, HO.out, Nat.zero_add]; exact hr2.cell t ht
            have hfw : ∀ t, t < n → wr.frozen? ⟨g, off + t, none⟩ = false := fun t _ => by rw [HO.out, Nat.zero_add]; exact hr2.frozen t
            have HG := Lib.hid hG
            clear hG
            have HP2 := Lib.hid hp2
            have HR2 := Lib.hid hr2
            have HX2 := Lib.hid hx2
            have hjn : j' < n := by have := hp2.jb; have := HB.out; omega
            have hj255 : j' < 255 := by omega
            clear hp2 hr2 hx2 hj0
            go_wp2
            by_cases hij2 : i' ≤ j'
            · have hj1 : 1 ≤ j' := by have := HP2.out.ai; omega
              go_quiet (first | (go_at_call 33; refine Calls.quiet_of_same (less_u _ _ _)))
              go_wp2
              · have hl : ltU (G j') (G a) = false := by simpa using ‹(!ltU (G j') (G a)) = true›
                go_roundw
                case rel => exact ⟨j' - 1, by congr 1; omega, by have := HJ0.out; omega, HP2.out.down hij2 (by have := ltU_f hl; rw [HG.out, HG.out, HP2.out.piv] at this; exact this), HR2.out.drewN _, fun h => HX2.out (by omega)⟩
                case measure => simp [cnt]; omega
              · have hl : ltU (G j') (G a) = true := by simpa using ‹(!ltU (G j') (G a)) = false›
                have hlo : ele dk j' < ele d a := by have := ltU_t hl; rw [HG.out, HG.out, HP2.out.piv] at this; exact this
                have hhi := HX2.out hij2
                have hne : i' < j' := by
                  rcases Nat.lt_or_ge i' j' with h | h
                  · exact h
                  · have e : i' = j' := by omega
                    rw [e] at hhi
                    exact absurd hlo (by omega)
                have HLo := Lib.hid hlo
                have HHi := Lib.hid hhi
                clear hlo hhi
                go_region
                all_goals go_wp2
                have HPN := Lib.hid (HP2.out.swap hne (by rw [HR2.out.len]; exact HB.out) HHi.out HLo.out)
                have HRN := Lib.hid (show RowU w base g n cap d a b (swp dk i' j') (((wr.drewN (nq + 1)).setCell ⟨g, off + i', none⟩ (.int .u64 (G j'))).setCell ⟨g, off + j', none⟩ (.int .u64 (G i'))) from by
                  rw [HG.out, HG.out, HO.out, Nat.zero_add, Nat.zero_add]
                  exact (HR2.out.drewN _).swap ⟨by have := HP2.out.ai; omega, by have := HP2.out.jb; omega⟩ ⟨by have := HP2.out.ai; omega, HP2.out.jb⟩ HB.out)
                clear hcw hfw HG
                generalize ((wr.drewN (nq + 1)).setCell ⟨g, off + i', none⟩ (.int .u64 (G j'))).setCell ⟨g, off + j', none⟩ (.int .u64 (G i')) = w9 at *
                have hdd : decide (j' < i') = false := by simp; omega
                simp only [hl, hdd, Bool.not_true]
                clear hl hdd
                obtain ⟨wo2, rfl⟩ : ∃ wo : World, wo = wr := ⟨_, rfl⟩
                go_loopw [10, 11] (PtU w base g n cap (· < ele d a) (ele d a ≤ ·) (ele d a) d a b) (fun v u _ => cnt u + 1 - cnt v)
                case atStart => exact ⟨i' + 1, j' - 1, _, by go_num, by congr 1; omega, HPN.out, HRN.out⟩
                case round =>
                  clear HI0 HP1 HR1 HX HPP HRR HJ0 HP2 HR2 HX2 HLo HHi hne HPN HRN hij2 hj1 hjn hj255 hin HP HRK
                  obtain ⟨i, j, dk, rfl, rfl, hp, hr⟩ := hrel
                  have HP := Lib.hid hp
                  have HRK := Lib.hid hr
                  have hjn : j < n := by have := hp.jb; have := HB.out; omega
                  have hj255 : j < 255 := by omega
                  clear hp hr
                  go_wp2
                  obtain ⟨wo, rfl⟩ : ∃ wo : World, wo = wr := ⟨_, rfl⟩
                  go_loopw [10] (PtI w base g n cap (· < ele d a) (ele d a ≤ ·) (ele d a) d a b j i dk) (fun v _ => j + 1 - cnt v)
                  case atStart => exact ⟨i, rfl, Nat.le_refl _, HP.out, HRK.out⟩
                  case round =>
                    obtain ⟨i', rfl, hi0, hp1, hr1⟩ := hrel
                    have HI0 := Lib.hid hi0
                    obtain ⟨G, hG⟩ : ∃ G : Nat → Int, ∀ t, G t = ele dk t := ⟨fun t => ele dk t, fun _ => rfl⟩
                    have hcw : ∀ t, t < n → wr.cell? ⟨g, off + t, none⟩ = some (.int .u64 (G t)) := fun t ht => by rw [hG, HO.out, Nat.zero_add]; exact hr1.cell t ht
                    have hfw : ∀ t, t < n → wr.frozen? ⟨g, off + t, none⟩ = false := fun t _ => by rw [HO.out, Nat.zero_add]; exact hr1.frozen t
                    have HG := Lib.hid hG
                    clear hG
                    have HP1 := Lib.hid hp1
                    have HR1 := Lib.hid hr1
                    have hin : (i' : Int) < 300 := by have := hp1.ij; have := hp1.jb; omega
                    clear hp1 hr1 hi0
                    go_wp2
                    by_cases hij : i' ≤ j
                    · have hi'n : i' < n := by omega
                      go_quiet (first | (go_at_call 33; refine Calls.quiet_of_same (less_u _ _ _)))
                      go_wp2
                      · have hl : ltU (G i') (G a) = true := by assumption
                        go_roundw
                        case rel => exact ⟨i' + 1, by go_num, by have := HI0.out; omega, HP1.out.up hij (by have := ltU_t hl; rw [HG.out, HG.out, HP1.out.piv] at this; exact this), HR1.out.drewN _⟩
                        case measure => simp [cnt]; omega
                      · have hl : ltU (G i') (G a) = false := by assumption
                        have HX := Lib.hid (show i' ≤ j → ele d a ≤ ele dk i' from fun _ => by have := ltU_f hl; rw [HG.out, HG.out, HP1.out.piv] at this; exact this)
                        have HPP := HP1
                        have HRR := Lib.hid (HR1.out.drewN nq)
                        simp only [hl]
                        clear hcw hfw HG hl hij
                        go_loopw [11] (PtJ w base g n cap (· < ele d a) (ele d a ≤ ·) (ele d a) d a b i' j dk) (fun u _ => cnt u)
                        case atStart => exact ⟨j, rfl, Nat.le_refl _, HPP.out, HRR.out, HX.out⟩
                        case round =>
                          obtain ⟨j', rfl, hj0, hp2, hr2, hx2⟩ := hrel
                          have HJ0 := Lib.hid hj0
                          obtain ⟨G, hG⟩ : ∃ G : Nat → Int, ∀ t, G t = ele dk t := ⟨fun t => ele dk t, fun _ => rfl⟩
                          have hcw : ∀ t, t < n → wr.cell? ⟨g, off + t, none⟩ = some (.int .u64 (G t)) := fun t ht => by rw [hG, HO.out, Nat.zero_add]; exact hr2.cell t ht
                          have hfw : ∀ t, t < n → wr.frozen? ⟨g, off + t, none⟩ = false := fun t _ => by rw [HO.out, Nat.zero_add]; exact hr2.frozen t
                          have HG := Lib.hid hG
                          clear hG
                          have HP2 := Lib.hid hp2
                          have HR2 := Lib.hid hr2
                          have HX2 := Lib.hid hx2
                          have hjn : j' < n := by have := hp2.jb; have := HB.out; omega
                          have hj255 : j' < 255 := by omega
                          clear hp2 hr2 hx2 hj0
                          go_wp2
                          by_cases hij2 : i' ≤ j'
                          · have hj1 : 1 ≤ j' := by have := HP2.out.ai; omega
                            go_quiet (first | (go_at_call 33; refine Calls.quiet_of_same (less_u _ _ _)))
                            go_wp2
                            · have hl : ltU (G j') (G a) = false := by simpa using ‹(!ltU (G j') (G a)) = true›
                              go_roundw
                              case rel => exact ⟨j' - 1, by congr 1; omega, by have := HJ0.out; omega, HP2.out.down hij2 (by have := ltU_f hl; rw [HG.out, HG.out, HP2.out.piv] at this; exact this), HR2.out.drewN _, fun h => HX2.out (by omega)⟩
                              case measure => simp [cnt]; omega
                            · have hl : ltU (G j') (G a) = true := by simpa using ‹(!ltU (G j') (G a)) = false›
                              have hlo : ele dk j' < ele d a := by have := ltU_t hl; rw [HG.out, HG.out, HP2.out.piv] at this; exact this
                              have hhi := HX2.out hij2
                              have hne : i' < j' := by
                                rcases Nat.lt_or_ge i' j' with h | h
                                · exact h
                                · have e : i' = j' := by omega
                                  rw [e] at hhi
                                  exact absurd hlo (by omega)
                              have HLo := Lib.hid hlo
                              have HHi := Lib.hid hhi
                              clear hlo hhi
                              go_region
                              all_goals go_wp2
                              have HPN := Lib.hid (HP2.out.swap hne (by rw [HR2.out.len]; exact HB.out) HHi.out HLo.out)
                              have HRN := Lib.hid (show RowU w base g n cap d a b (swp dk i' j') (((wr.drewN (nq + 1)).setCell ⟨g, off + i', none⟩ (.int .u64 (G j'))).setCell ⟨g, off + j', none⟩ (.int .u64 (G i'))) from by
                                rw [HG.out, HG.out, HO.out, Nat.zero_add, Nat.zero_add]
                                exact (HR2.out.drewN _).swap ⟨by have := HP2.out.ai; omega, by have := HP2.out.jb; omega⟩ ⟨by have := HP2.out.ai; omega, HP2.out.jb⟩ HB.out)
                              go_roundw
                              case rel => exact ⟨i' + 1, j' - 1, _, by go_num, by congr 1; omega, HPN.out, HRN.out⟩
                              case measure => simp [cnt]; have := HJ0.out; have := HI0.out; omega
                          · go_quiet (first | (go_at_call 33; refine Calls.quiet_of_same (less_u _ _ _)))
                            go_wp2
                            have hji : i' = j' + 1 := by have := HP2.out.ij; omega
                            have haj : a ≤ j' := by have := HP2.out.ai; omega
                            have HIJ2 := Lib.hid hij2
                            have HJI := Lib.hid hji
                            have HAJ := Lib.hid haj
                            clear hij2 hji haj
                            by_cases hja : j' = a
                            · have hja' := hja.symm
                              subst hja'
                              go_region
                              all_goals go_wp2
                              go_ret2
                              refine ⟨a, swp dk a a, _, rfl, ?_, part_fin HP2.out (by rw [HR2.out.len]; exact HB.out) HJI.out⟩
                              rw [HG.out, HO.out, Nat.zero_add]
                              exact (HR2.out.drewN _).swap ⟨Nat.le_refl _, HP2.out.jb⟩ ⟨Nat.le_refl _, HP2.out.jb⟩ HB.out
                            · go_region
                              all_goals go_wp2
                              go_ret2
                              refine ⟨j', swp dk j' a, _, rfl, ?_, part_fin HP2.out (by rw [HR2.out.len]; exact HB.out) HJI.out⟩
                              rw [HG.out, HG.out, HO.out, Nat.zero_add, Nat.zero_add]
                              exact (HR2.out.drewN _).swap ⟨HAJ.out, HP2.out.jb⟩ ⟨Nat.le_refl _, by have := HAJ.out; have := HP2.out.jb; omega⟩ HB.out
                    · go_quiet (first | (go_at_call 33; refine Calls.quiet_of_same (less_u _ _ _)))
                      go_wp2
                      have HX := Lib.hid (show i' ≤ j → ele d a ≤ ele dk i' from fun h => absurd h hij)
                      have HPP := HP1
                      have HRR := Lib.hid (HR1.out.drewN nq)
                      have HIJ := Lib.hid hij
                      clear hcw hfw HG hij
                      go_loopw [11] (PtJ w base g n cap (· < ele d a) (ele d a ≤ ·) (ele d a) d a b i' j dk) (fun u _ => cnt u)
                      case atStart => exact ⟨j, rfl, Nat.le_refl _, HPP.out, HRR.out, HX.out⟩
                      case round =>
                        obtain ⟨j', rfl, hj0, hp2, hr2, hx2⟩ := hrel
                        have HJ0 := Lib.hid hj0
                        obtain ⟨G, hG⟩ : ∃ G : Nat → Int, ∀ t, G t = ele dk t := ⟨fun t => ele dk t, fun _ => rfl⟩
                        have hcw : ∀ t, t < n → wr.cell? ⟨g, off + t, none⟩ = some (.int .u64 (G t)) := fun t ht => by rw [hG, HO.out, Nat.zero_add]; exact hr2.cell t ht
                        have hfw : ∀ t, t < n → wr.frozen? ⟨g, off + t, none⟩ = false := fun t _ => by rw [HO.out, Nat.zero_add]; exact hr2.frozen t
                        have HG := Lib.hid hG
                        clear hG
                        have HP2 := Lib.hid hp2
                        have HR2 := Lib.hid hr2
                        have HX2 := Lib.hid hx2
                        have hjn : j' < n := by have := hp2.jb; have := HB.out; omega
                        have hj255 : j' < 255 := by omega
                        clear hp2 hr2 hx2 hj0
                        go_wp2
                        have hij2 : ¬ i' ≤ j' := by have := HIJ.out; have := HJ0.out; omega
                        go_quiet (first | (go_at_call 33; refine Calls.quiet_of_same (less_u _ _ _)))
                        go_wp2
                        have hji : i' = j' + 1 := by have := HP2.out.ij; omega
                        have haj : a ≤ j' := by have := HP2.out.ai; omega
                        have HIJ2 := Lib.hid hij2
                        have HJI := Lib.hid hji
                        have HAJ := Lib.hid haj
                        clear hij2 hji haj
                        by_cases hja : j' = a
                        · have hja' := hja.symm
                          subst hja'
                          go_region
                          all_goals go_wp2
                          go_ret2
                          refine ⟨a, swp dk a a, _, rfl, ?_, part_fin HP2.out (by rw [HR2.out.len]; exact HB.out) HJI.out⟩
                          rw [HG.out, HO.out, Nat.zero_add]
                          exact (HR2.out.drewN _).swap ⟨Nat.le_refl _, HP2.out.jb⟩ ⟨Nat.le_refl _, HP2.out.jb⟩ HB.out
                        · go_region
                          all_goals go_wp2
                          go_ret2
                          refine ⟨j', swp dk j' a, _, rfl, ?_, part_fin HP2.out (by rw [HR2.out.len]; exact HB.out) HJI.out⟩
                          rw [HG.out, HG.out, HO.out, Nat.zero_add, Nat.zero_add]
                          exact (HR2.out.drewN _).swap ⟨HAJ.out, HP2.out.jb⟩ ⟨Nat.le_refl _, by have := HAJ.out; have := HP2.out.jb; omega⟩ HB.out
            · go_quiet (first | (go_at_call 33; refine Calls.quiet_of_same (less_u _ _ _)))
              go_wp2
              have hji : i' = j' + 1 := by have := HP2.out.ij; omega
              have haj : a ≤ j' := by have := HP2.out.ai; omega
              have HIJ2 := Lib.hid hij2
              have HJI := Lib.hid hji
              have HAJ := Lib.hid haj
              clear hij2 hji haj
              by_cases hja : j' = a
              · have hja' := hja.symm
                subst hja'
                go_region
                all_goals go_wp2
                go_ret2
                refine ⟨a, swp dk a a, _, rfl, ?_, part_fin HP2.out (by rw [HR2.out.len]; exact HB.out) HJI.out⟩
                rw [HG.out, HO.out, Nat.zero_add]
                exact (HR2.out.drewN _).swap ⟨Nat.le_refl _, HP2.out.jb⟩ ⟨Nat.le_refl _, HP2.out.jb⟩ HB.out
              · go_region
                all_goals go_wp2
                go_ret2
                refine ⟨j', swp dk j' a, _, rfl, ?_, part_fin HP2.out (by rw [HR2.out.len]; exact HB.out) HJI.out⟩
                rw [HG.out, HG.out, HO.out, Nat.zero_add, Nat.zero_add]
                exact (HR2.out.drewN _).swap ⟨HAJ.out, HP2.out.jb⟩ ⟨Nat.le_refl _, by have := HAJ.out; have := HP2.out.jb; omega⟩ HB.out
      · go_quiet (first | (go_at_call 33; refine Calls.quiet_of_same (less_u _ _ _)))
        go_wp2
        have HX := Lib.hid (show i' ≤ j → ele d a ≤ ele dk i' from fun h => absurd h hij)
        have HPP := HP1
        have HRR := Lib.hid (HR1.out.drewN nq)
        have HIJ := Lib.hid hij
        clear hcw hfw HG hij
        go_loopw [11] (PtJ w base g n cap (· < ele d a) (ele d a ≤ ·) (ele d a) d a b i' j dk) (fun u _ => cnt u)
        case atStart => exact ⟨j, rfl, Nat.le_refl _, HPP.out, HRR.out, HX.out⟩
        case round =>
          obtain ⟨j', rfl, hj0, hp2, hr2, hx2⟩ := hrel
          have HJ0 := Lib.hid hj0
          obtain ⟨G, hG⟩ : ∃ G : Nat → Int, ∀ t, G t = ele dk t := ⟨fun t => ele dk t, fun _ => rfl⟩
          have hcw : ∀ t, t < n → wr.cell? ⟨g, off + t, none⟩ = some (.int .u64 (G t)) := fun t ht => by rw [hG, HO.out, Nat.zero_add]; exact hr2.cell t ht
          have hfw : ∀ t, t < n → wr.frozen? ⟨g, off + t, none⟩ = false := fun t _ => by rw [HO.out, Nat.zero_add]; exact hr2.frozen t
          have HG := Lib.hid hG
          clear hG
          have HP2 := Lib.hid hp2
          have HR2 := Lib.hid hr2
          have HX2 := Lib.hid hx2
          have hjn : j' < n := by have := hp2.jb; have := HB.out; omega
          have hj255 : j' < 255 := by omega
          clear hp2 hr2 hx2 hj0
          go_wp2
          have hij2 : ¬ i' ≤ j' := by have := HIJ.out; have := HJ0.out; omega
          go_quiet (first | (go_at_call 33; refine Calls.quiet_of_same (less_u _ _ _)))
          go_wp2
          have hji : i' = j' + 1 := by have := HP2.out.ij; omega
          have haj : a ≤ j' := by have := HP2.out.ai; omega
          have HIJ2 := Lib.hid hij2
          have HJI := Lib.hid hji
          have HAJ := Lib.hid haj
          clear hij2 hji haj
          by_cases hja : j' = a
          · have hja' := hja.symm
            subst hja'
            go_region
            all_goals go_wp2
            go_ret2
            refine ⟨a, swp dk a a, _, rfl, ?_, part_fin HP2.out (by rw [HR2.out.len]; exact HB.out) HJI.out⟩
            rw [HG.out, HO.out, Nat.zero_add]
            exact (HR2.out.drewN _).swap ⟨Nat.le_refl _, HP2.out.jb⟩ ⟨Nat.le_refl _, HP2.out.jb⟩ HB.out
          · go_region
            all_goals go_wp2
            go_ret2
            refine ⟨j', swp dk j' a, _, rfl, ?_, part_fin HP2.out (by rw [HR2.out.len]; exact HB.out) HJI.out⟩
            rw [HG.out, HG.out, HO.out, Nat.zero_add, Nat.zero_add]
            exact (HR2.out.drewN _).swap ⟨HAJ.out, HP2.out.jb⟩ ⟨Nat.le_refl _, by have := HAJ.out; have := HP2.out.jb; omega⟩ HB.out
  · go_wp2
    go_region
    all_goals go_wp2
    have hw1 : RowU w base g n cap d a b (swp d a p) (((w.drewN 1).setCell ⟨g, off + a, none⟩ (.int .u64 (G p))).setCell ⟨g, off + p, none⟩ (.int .u64 (G a))) := by
      rw [HG.out, HG.out, HO.out, Nat.zero_add, Nat.zero_add]
      exact (HR.out.drewN 1).swap ⟨Nat.le_refl _, by have := HAP.out; have := HPB.out; omega⟩ ⟨HAP.out, HPB.out⟩ HB.out
    have hp1 : Part (· < ele d p) (ele d p ≤ ·) (ele d p) (swp d a p) a b (a + 1) (b - 1) := Part.start (by rw [swp_ele (by rw [HR.out.len]; exact han) (by rw [HR.out.len]; exact hpn), if_neg (by omega : ¬ a = p), if_pos rfl]) (by have := HAP.out; have := HPB.out; omega)
    have H1R := Lib.hid hw1
    have H1P := Lib.hid hp1
    obtain ⟨i, hi⟩ : ∃ i, i = a + 1 := ⟨_, rfl⟩
    obtain ⟨j, hj⟩ : ∃ j, j = b - 1 := ⟨_, rfl⟩
    rw [show ((a : Int) + 1) = (i : Int) by omega, show ((b : Int) - 1) = (j : Int) by have := HAP.out; have := HPB.out; omega]
    rw [← hi, ← hj] at hp1
    have HP := Lib.hid hp1
    obtain ⟨dk, hdk⟩ : ∃ dk, dk = swp d a p := ⟨_, rfl⟩
    rw [← hdk] at hw1 hp1
    have HP := Lib.hid hp1
    have HRK := Lib.hid hw1
    have hjn : j < n := by have := HB.out; omega
    have hj255 : j < 255 := by omega
    have hin0 : (i : Int) < 300 := by omega
    clear hw1 hp1 hcw hfw HG H1R H1P hi hj hdk
    go_loopw [10] (PtI w base g n cap (· < ele d p) (ele d p ≤ ·) (ele d p) d a b j i dk) (fun v _ => j + 1 - cnt v)
    case atStart => exact ⟨i, rfl, Nat.le_refl _, HP.out, HRK.out⟩
    case round =>
      obtain ⟨i', rfl, hi0, hp1, hr1⟩ := hrel
      have HI0 := Lib.hid hi0
      obtain ⟨G, hG⟩ : ∃ G : Nat → Int, ∀ t, G t = ele dk t := ⟨fun t => ele dk t, fun _ => rfl⟩
      have hcw : ∀ t, t < n → wr.cell? ⟨g, off + t, none⟩ = some (.int .u64 (G t)) := fun t ht => by rw [hG, HO.out, Nat.zero_add]; exact hr1.cell t ht
      have hfw : ∀ t, t < n → wr.frozen? ⟨g, off + t, none⟩ = false := fun t _ => by rw [HO.out, Nat.zero_add]; exact hr1.frozen t
      have HG := Lib.hid hG
      clear hG
      have HP1 := Lib.hid hp1
      have HR1 := Lib.hid hr1
      have hin : (i' : Int) < 300 := by have := hp1.ij; have := hp1.jb; omega
      clear hp1 hr1 hi0
      go_wp2
      by_cases hij : i' ≤ j
      · have hi'n : i' < n := by omega
        go_quiet (first | (go_at_call 33; refine Calls.quiet_of_same (less_u _ _ _)))
        go_wp2
        · have hl : ltU (G i') (G a) = true := by assumption
          go_roundw
          case rel => exact ⟨i' + 1, by go_num, by have := HI0.out; omega, HP1.out.up hij (by have := ltU_t hl; rw [HG.out, HG.out, HP1.out.piv] at this; exact this), HR1.out.drewN _⟩
          case measure => simp [cnt]; omega
        · have hl : ltU (G i') (G a) = false := by assumption
          have HX := Lib.hid (show i' ≤ j → ele d p ≤ ele dk i' from fun _ => by have := ltU_f hl; rw [HG.out, HG.out, HP1.out.piv] at this; exact this)
          have HPP := HP1
          have HRR := Lib.hid (HR1.out.drewN nq)
          simp only [hl]
          clear hcw hfw HG hl hij
          go_loopw [11] (PtJ w base g n cap (· < ele d p) (ele d p ≤ ·) (ele d p) d a b i' j dk) (fun u _ => cnt u)
          case atStart => exact ⟨j, rfl, Nat.le_refl _, HPP.out, HRR.out, HX.out⟩
          case round =>
            obtain ⟨j', rfl, hj0, hp2, hr2, hx2⟩ := hrel
            have HJ0 := Lib.hid hj0
            obtain ⟨G, hG⟩ : ∃ G : Nat → Int, ∀ t, G t = ele dk t := ⟨fun t => ele dk t, fun _ => rfl⟩
            have hcw : ∀ t, t < n → wr.cell? ⟨g, off + t, none⟩ = some (.int .u64 (G t)) := fun t ht => by rw [hG, HO.out, Nat.zero_add]; exact hr2.cell t ht
            have hfw : ∀ t, t < n → wr.frozen? ⟨g, off + t, none⟩ = false := fun t _ => by rw [HO.out, Nat.zero_add]; exact hr2.frozen t
            have HG := Lib.hid hG
            clear hG
            have HP2 := Lib.hid hp2
            have HR2 := Lib.hid hr2
            have HX2 := Lib.hid hx2
            have hjn : j' < n := by have := hp2.jb; have := HB.out; omega
            have hj255 : j' < 255 := by omega
            clear hp2 hr2 hx2 hj0
            go_wp2
            by_cases hij2 : i' ≤ j'
            · have hj1 : 1 ≤ j' := by have := HP2.out.ai; omega
              go_quiet (first | (go_at_call 33; refine Calls.quiet_of_same (less_u _ _ _)))
              go_wp2
              · have hl : ltU (G j') (G a) = false := by simpa using ‹(!ltU (G j') (G a)) = true›
                go_roundw
                case rel => exact ⟨j' - 1, by congr 1; omega, by have := HJ0.out; omega, HP2.out.down hij2 (by have := ltU_f hl; rw [HG.out, HG.out, HP2.out.piv] at this; exact this), HR2.out.drewN _, fun h => HX2.out (by omega)⟩
                case measure => simp [cnt]; omega
              · have hl : ltU (G j') (G a) = true := by simpa using ‹(!ltU (G j') (G a)) = false›
                have hlo : ele dk j' < ele d p := by have := ltU_t hl; rw [HG.out, HG.out, HP2.out.piv] at this; exact this
                have hhi := HX2.out hij2
                have hne : i' < j' := by
                  rcases Nat.lt_or_ge i' j' with h | h
                  · exact h
                  · have e : i' = j' := by omega
                    rw [e] at hhi
                    exact absurd hlo (by omega)
                have HLo := Lib.hid hlo
                have HHi := Lib.hid hhi
                clear hlo hhi
                go_region
                all_goals go_wp2
                have HPN := Lib.hid (HP2.out.swap hne (by rw [HR2.out.len]; exact HB.out) HHi.out HLo.out)
                have HRN := Lib.hid (show RowU w base g n cap d a b (swp dk i' j') (((wr.drewN (nq + 1)).setCell ⟨g, off + i', none⟩ (.int .u64 (G j'))).setCell ⟨g, off + j', none⟩ (.int .u64 (G i'))) from by
                  rw [HG.out, HG.out, HO.out, Nat.zero_add, Nat.zero_add]
                  exact (HR2.out.drewN _).swap ⟨by have := HP2.out.ai; omega, by have := HP2.out.jb; omega⟩ ⟨by have := HP2.out.ai; omega, HP2.out.jb⟩ HB.out)
                clear hcw hfw HG
                generalize ((wr.drewN (nq + 1)).setCell ⟨g, off + i', none⟩ (.int .u64 (G j'))).setCell ⟨g, off + j', none⟩ (.int .u64 (G i')) = w9 at *
                have hdd : decide (j' < i') = false := by simp; omega
                simp only [hl, hdd, Bool.not_true]
                clear hl hdd
                obtain ⟨wo2, rfl⟩ : ∃ wo : World, wo = wr := ⟨_, rfl⟩
                go_loopw [10, 11] (PtU w base g n cap (· < ele d p) (ele d p ≤ ·) (ele d p) d a b) (fun v u _ => cnt u + 1 - cnt v)
                case atStart => exact ⟨i' + 1, j' - 1, _, by go_num, by congr 1; omega, HPN.out, HRN.out⟩
                case round =>
                  clear HI0 HP1 HR1 HX HPP HRR HJ0 HP2 HR2 HX2 HLo HHi hne HPN HRN hij2 hj1 hjn hj255 hin HP HRK
                  obtain ⟨i, j, dk, rfl, rfl, hp, hr⟩ := hrel
                  have HP := Lib.hid hp
                  have HRK := Lib.hid hr
                  have hjn : j < n := by have := hp.jb; have := HB.out; omega
                  have hj255 : j < 255 := by omega
                  clear hp hr
                  go_wp2
                  obtain ⟨wo, rfl⟩ : ∃ wo : World, wo = wr := ⟨_, rfl⟩
                  go_loopw [10] (PtI w base g n cap (· < ele d p) (ele d p ≤ ·) (ele d p) d a b j i dk) (fun v _ => j + 1 - cnt v)
                  case atStart => exact ⟨i, rfl, Nat.le_refl _, HP.out, HRK.out⟩
                  case round =>
                    obtain ⟨i', rfl, hi0, hp1, hr1⟩ := hrel
                    have HI0 := Lib.hid hi0
                    obtain ⟨G, hG⟩ : ∃ G : Nat → Int, ∀ t, G t = ele dk t := ⟨fun t => ele dk t, fun _ => rfl⟩
                    have hcw : ∀ t, t < n → wr.cell? ⟨g, off + t, none⟩ = some (.int .u64 (G t)) := fun t ht => by rw [hG, HO.out, Nat.zero_add]; exact hr1.cell t ht
                    have hfw : ∀ t, t < n → wr.frozen? ⟨g, off + t, none⟩ = false := fun t _ => by rw [HO.out, Nat.zero_add]; exact hr1.frozen t
                    have HG := Lib.hid hG
                    clear hG
                    have HP1 := Lib.hid hp1
                    have HR1 := Lib.hid hr1
                    have hin : (i' : Int) < 300 := by have := hp1.ij; have := hp1.jb; omega
                    clear hp1 hr1 hi0
                    go_wp2
                    by_cases hij : i' ≤ j
                    · have hi'n : i' < n := by omega
                      go_quiet (first | (go_at_call 33; refine Calls.quiet_of_same (less_u _ _ _)))
                      go_wp2
                      · have hl : ltU (G i') (G a) = true := by assumption
                        go_roundw
                        case rel => exact ⟨i' + 1, by go_num, by have := HI0.out; omega, HP1.out.up hij (by have := ltU_t hl; rw [HG.out, HG.out, HP1.out.piv] at this; exact this), HR1.out.drewN _⟩
                        case measure => simp [cnt]; omega
                      · have hl : ltU (G i') (G a) = false := by assumption
                        have HX := Lib.hid (show i' ≤ j → ele d p ≤ ele dk i' from fun _ => by have := ltU_f hl; rw [HG.out, HG.out, HP1.out.piv] at this; exact this)
                        have HPP := HP1
                        have HRR := Lib.hid (HR1.out.drewN nq)
                        simp only [hl]
                        clear hcw hfw HG hl hij
                        go_loopw [11] (PtJ w base g n cap (· < ele d p) (ele d p ≤ ·) (ele d p) d a b i' j dk) (fun u _ => cnt u)
                        case atStart => exact ⟨j, rfl, Nat.le_refl _, HPP.out, HRR.out, HX.out⟩
                        case round =>
                          obtain ⟨j', rfl, hj0, hp2, hr2, hx2⟩ := hrel
                          have HJ0 := Lib.hid hj0
                          obtain ⟨G, hG⟩ : ∃ G : Nat → Int, ∀ t, G t = ele dk t := ⟨fun t => ele dk t, fun _ => rfl⟩
                          have hcw : ∀ t, t < n → wr.cell? ⟨g, off + t, none⟩ = some (.int .u64 (G t)) := fun t ht => by rw [hG, HO.out, Nat.zero_add]; exact hr2.cell t ht
                          have hfw : ∀ t, t < n → wr.frozen? ⟨g, off + t, none⟩ = false := fun t _ => by rw [HO.out, Nat.zero_add]; exact hr2.frozen t
                          have HG := Lib.hid hG
                          clear hG
                          have HP2 := Lib.hid hp2
                          have HR2 := Lib.hid hr2
                          have HX2 := Lib.hid hx2
                          have hjn : j' < n := by have := hp2.jb; have := HB.out; omega
                          have hj255 : j' < 255 := by omega
                          clear hp2 hr2 hx2 hj0
                          go_wp2
                          by_cases hij2 : i' ≤ j'
                          · have hj1 : 1 ≤ j' := by have := HP2.out.ai; omega
                            go_quiet (first | (go_at_call 33; refine Calls.quiet_of_same (less_u _ _ _)))
                            go_wp2
                            · have hl : ltU (G j') (G a) = false := by simpa using ‹(!ltU (G j') (G a)) = true›
                              go_roundw
                              case rel => exact ⟨j' - 1, by congr 1; omega, by have := HJ0.out; omega, HP2.out.down hij2 (by have := ltU_f hl; rw [HG.out, HG.out, HP2.out.piv] at this; exact this), HR2.out.drewN _, fun h => HX2.out (by omega)⟩
                              case measure => simp [cnt]; omega
                            · have hl : ltU (G j') (G a) = true := by simpa using ‹(!ltU (G j') (G a)) = false›
                              have hlo : ele dk j' < ele d p := by have := ltU_t hl; rw [HG.out, HG.out, HP2.out.piv] at this; exact this
                              have hhi := HX2.out hij2
                              have hne : i' < j' := by
                                rcases Nat.lt_or_ge i' j' with h | h
                                · exact h
                                · have e : i' = j' := by omega
                                  rw [e] at hhi
                                  exact absurd hlo (by omega)
                              have HLo := Lib.hid hlo
                              have HHi := Lib.hid hhi
                              clear hlo hhi
                              go_region
                              all_goals go_wp2
                              have HPN := Lib.hid (HP2.out.swap hne (by rw [HR2.out.len]; exact HB.out) HHi.out HLo.out)
                              have HRN := Lib.hid (show RowU w base g n cap d a b (swp dk i' j') (((wr.drewN (nq + 1)).setCell ⟨g, off + i', none⟩ (.int .u64 (G j'))).setCell ⟨g, off + j', none⟩ (.int .u64 (G i'))) from by
                                rw [HG.out, HG.out, HO.out, Nat.zero_add, Nat.zero_add]
                                exact (HR2.out.drewN _).swap ⟨by have := HP2.out.ai; omega, by have := HP2.out.jb; omega⟩ ⟨by have := HP2.out.ai; omega, HP2.out.jb⟩ HB.out)
                              go_roundw
                              case rel => exact ⟨i' + 1, j' - 1, _, by go_num, by congr 1; omega, HPN.out, HRN.out⟩
                              case measure => simp [cnt]; have := HJ0.out; have := HI0.out; omega
                          · go_quiet (first | (go_at_call 33; refine Calls.quiet_of_same (less_u _ _ _)))
                            go_wp2
                            have hji : i' = j' + 1 := by have := HP2.out.ij; omega
                            have haj : a ≤ j' := by have := HP2.out.ai; omega
                            have HIJ2 := Lib.hid hij2
                            have HJI := Lib.hid hji
                            have HAJ := Lib.hid haj
                            clear hij2 hji haj
                            by_cases hja : j' = a
                            · have hja' := hja.symm
                              subst hja'
                              go_region
                              all_goals go_wp2
                              go_ret2
                              refine ⟨a, swp dk a a, _, rfl, ?_, part_fin HP2.out (by rw [HR2.out.len]; exact HB.out) HJI.out⟩
                              rw [HG.out, HO.out, Nat.zero_add]
                              exact (HR2.out.drewN _).swap ⟨Nat.le_refl _, HP2.out.jb⟩ ⟨Nat.le_refl _, HP2.out.jb⟩ HB.out
                            · go_region
                              all_goals go_wp2
                              go_ret2
                              refine ⟨j', swp dk j' a, _, rfl, ?_, part_fin HP2.out (by rw [HR2.out.len]; exact HB.out) HJI.out⟩
                              rw [HG.out, HG.out, HO.out, Nat.zero_add, Nat.zero_add]
                              exact (HR2.out.drewN _).swap ⟨HAJ.out, HP2.out.jb⟩ ⟨Nat.le_refl _, by have := HAJ.out; have := HP2.out.jb; omega⟩ HB.out
                    · go_quiet (first | (go_at_call 33; refine Calls.quiet_of_same (less_u _ _ _)))
                      go_wp2
                      have HX := Lib.hid (show i' ≤ j → ele d p ≤ ele dk i' from fun h => absurd h hij)
                      have HPP := HP1
                      have HRR := Lib.hid (HR1.out.drewN nq)
                      have HIJ := Lib.hid hij
                      clear hcw hfw HG hij
                      go_loopw [11] (PtJ w base g n cap (· < ele d p) (ele d p ≤ ·) (ele d p) d a b i' j dk) (fun u _ => cnt u)
                      case atStart => exact ⟨j, rfl, Nat.le_refl _, HPP.out, HRR.out, HX.out⟩
                      case round =>
                        obtain ⟨j', rfl, hj0, hp2, hr2, hx2⟩ := hrel
                        have HJ0 := Lib.hid hj0
                        obtain ⟨G, hG⟩ : ∃ G : Nat → Int, ∀ t, G t = ele dk t := ⟨fun t => ele dk t, fun _ => rfl⟩
                        have hcw : ∀ t, t < n → wr.cell? ⟨g, off + t, none⟩ = some (.int .u64 (G t)) := fun t ht => by rw [hG, HO.out, Nat.zero_add]; exact hr2.cell t ht
                        have hfw : ∀ t, t < n → wr.frozen? ⟨g, off + t, none⟩ = false := fun t _ => by rw [HO.out, Nat.zero_add]; exact hr2.frozen t
                        have HG := Lib.hid hG
                        clear hG
                        have HP2 := Lib.hid hp2
                        have HR2 := Lib.hid hr2
                        have HX2 := Lib.hid hx2
                        have hjn : j' < n := by have := hp2.jb; have := HB.out; omega
                        have hj255 : j' < 255 := by omega
                        clear hp2 hr2 hx2 hj0
                        go_wp2
                        have hij2 : ¬ i' ≤ j' := by have := HIJ.out; have := HJ0.out; omega
                        go_quiet (first | (go_at_call 33; refine Calls.quiet_of_same (less_u _ _ _)))
                        go_wp2
                        have hji : i' = j' + 1 := by have := HP2.out.ij; omega
                        have haj : a ≤ j' := by have := HP2.out.ai; omega
                        have HIJ2 := Lib.hid hij2
                        have HJI := Lib.hid hji
                        have HAJ := Lib.hid haj
                        clear hij2 hji haj
                        by_cases hja : j' = a
                        · have hja' := hja.symm
                          subst hja'
                          go_region
                          all_goals go_wp2
                          go_ret2
                          refine ⟨a, swp dk a a, _, rfl, ?_, part_fin HP2.out (by rw [HR2.out.len]; exact HB.out) HJI.out⟩
                          rw [HG.out, HO.out, Nat.zero_add]
                          exact (HR2.out.drewN _).swap ⟨Nat.le_refl _, HP2.out.jb⟩ ⟨Nat.le_refl _, HP2.out.jb⟩ HB.out
                        · go_region
                          all_goals go_wp2
                          go_ret2
                          refine ⟨j', swp dk j' a, _, rfl, ?_, part_fin HP2.out (by rw [HR2.out.len]; exact HB.out) HJI.out⟩
                          rw [HG.out, HG.out, HO.out, Nat.zero_add, Nat.zero_add]
                          exact (HR2.out.drewN _).swap ⟨HAJ.out, HP2.out.jb⟩ ⟨Nat.le_refl _, by have := HAJ.out; have := HP2.out.jb; omega⟩ HB.out
            · go_quiet (first | (go_at_call 33; refine Calls.quiet_of_same (less_u _ _ _)))
              go_wp2
              have hji : i' = j' + 1 := by have := HP2.out.ij; omega
              have haj : a ≤ j' := by have := HP2.out.ai; omega
              have HIJ2 := Lib.hid hij2
              have HJI := Lib.hid hji
              have HAJ := Lib.hid haj
              clear hij2 hji haj
              by_cases hja : j' = a
              · have hja' := hja.symm
                subst hja'
                go_region
                all_goals go_wp2
                go_ret2
                refine ⟨a, swp dk a a, _, rfl, ?_, part_fin HP2.out (by rw [HR2.out.len]; exact HB.out) HJI.out⟩
                rw [HG.out, HO.out, Nat.zero_add]
                exact (HR2.out.drewN _).swap ⟨Nat.le_refl _, HP2.out.jb⟩ ⟨Nat.le_refl _, HP2.out.jb⟩ HB.out
              · go_region
                all_goals go_wp2
                go_ret2
                refine ⟨j', swp dk j' a, _, rfl, ?_, part_fin HP2.out (by rw [HR2.out.len]; exact HB.out) HJI.out⟩
                rw [HG.out, HG.out, HO.out, Nat.zero_add, Nat.zero_add]
                exact (HR2.out.drewN _).swap ⟨HAJ.out, HP2.out.jb⟩ ⟨Nat.le_refl _, by have := HAJ.out; have := HP2.out.jb; omega⟩ HB.out
      · go_quiet (first | (go_at_call 33; refine Calls.quiet_of_same (less_u _ _ _)))
        go_wp2
        have HX := Lib.hid (show i' ≤ j → ele d p ≤ ele dk i' from fun h => absurd h hij)
        have HPP := HP1
        have HRR := Lib.hid (HR1.out.drewN nq)
        have HIJ := Lib.hid hij
        clear hcw hfw HG hij
        go_loopw [11] (PtJ w base g n cap (· < ele d p) (ele d p ≤ ·) (ele d p) d a b i' j dk) (fun u _ => cnt u)
        case atStart => exact ⟨j, rfl, Nat.le_refl _, HPP.out, HRR.out, HX.out⟩
        case round =>
          obtain ⟨j', rfl, hj0, hp2, hr2, hx2⟩ := hrel
          have HJ0 := Lib.hid hj0
          obtain ⟨G, hG⟩ : ∃ G : Nat → Int, ∀ t, G t = ele dk t := ⟨fun t => ele dk t, fun _ => rfl⟩
          have hcw : ∀ t, t < n → wr.cell? ⟨g, off + t, none⟩ = some (.int .u64 (G t)) := fun t ht => by rw [hG, HO.out, Nat.zero_add]; exact hr2.cell t ht
          have hfw : ∀ t, t < n → wr.frozen? ⟨g, off + t, none⟩ = false := fun t _ => by rw [HO.out, Nat.zero_add]; exact hr2.frozen t
          have HG := Lib.hid hG
          clear hG
          have HP2 := Lib.hid hp2
          have HR2 := Lib.hid hr2
          have HX2 := Lib.hid hx2
          have hjn : j' < n := by have := hp2.jb; have := HB.out; omega
          have hj255 : j' < 255 := by omega
          clear hp2 hr2 hx2 hj0
          go_wp2
          have hij2 : ¬ i' ≤ j' := by have := HIJ.out; have := HJ0.out; omega
          go_quiet (first | (go_at_call 33; refine Calls.quiet_of_same (less_u _ _ _)))
          go_wp2
          have hji : i' = j' + 1 := by have := HP2.out.ij; omega
          have haj : a ≤ j' := by have := HP2.out.ai; omega
          have HIJ2 := Lib.hid hij2
          have HJI := Lib.hid hji
          have HAJ := Lib.hid haj
          clear hij2 hji haj
          by_cases hja : j' = a
          · have hja' := hja.symm
            subst hja'
            go_region
            all_goals go_wp2
            go_ret2
            refine ⟨a, swp dk a a, _, rfl, ?_, part_fin HP2.out (by rw [HR2.out.len]; exact HB.out) HJI.out⟩
            rw [HG.out, HO.out, Nat.zero_add]
            exact (HR2.out.drewN _).swap ⟨Nat.le_refl _, HP2.out.jb⟩ ⟨Nat.le_refl _, HP2.out.jb⟩ HB.out
          · go_region
            all_goals go_wp2
            go_ret2
            refine ⟨j', swp dk j' a, _, rfl, ?_, part_fin HP2.out (by rw [HR2.out.len]; exact HB.out) HJI.out⟩
            rw [HG.out, HG.out, HO.out, Nat.zero_add, Nat.zero_add]
            exact (HR2.out.drewN _).swap ⟨HAJ.out, HP2.out.jb⟩ ⟨Nat.le_refl _, by have := HAJ.out; have := HP2.out.jb; omega⟩ HB.out
end Go.Proofs.Ythnefhkacgkacaa
