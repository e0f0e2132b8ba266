/- pdqsortOrdered's helpers at words: partitionEqual. -/
import Derived.Test.YthnefhkacgkacaaSrtb
namespace Go.Proofs.Ythnefhkacgkacaa
open Go.RowKit

/-- A partition under way: the pivot stands at a; those behind it up to i are Lo, those from j on Hi. -/
structure Part (Lo Hi : Int → Prop) (pv : Int) (d : List Int) (a b i j : Nat) : Prop where
  piv : ele d a = pv
  lo : ∀ k, a < k → k < i → Lo (ele d k)
  hi : ∀ k, j < k → k < b → Hi (ele d k)
  ai : a < i
  ij : i ≤ j + 1
  jb : j < b

section
variable {Lo Hi : Int → Prop} {pv : Int} {d : List Int} {a b i j : Nat}
theorem Part.up (h : Part Lo Hi pv d a b i j) (hij : i ≤ j) (hl : Lo (ele d i)) : Part Lo Hi pv d a b (i + 1) j :=
  ⟨h.piv, fun k h1 h2 => by
    by_cases e : k = i
    · rw [e]; exact hl
    · exact h.lo k h1 (by omega), h.hi, by have := h.ai; omega, by omega, h.jb⟩
theorem Part.down (h : Part Lo Hi pv d a b i j) (hij : i ≤ j) (hl : Hi (ele d j)) : Part Lo Hi pv d a b i (j - 1) :=
  ⟨h.piv, h.lo, fun k h1 h2 => by
    by_cases e : k = j
    · rw [e]; exact hl
    · exact h.hi k (by omega) h2, h.ai, by omega, by have := h.jb; omega⟩
theorem Part.swap (h : Part Lo Hi pv d a b i j) (hij : i < j) (hb : b ≤ d.length) (hi : Hi (ele d i)) (hj : Lo (ele d j)) : Part Lo Hi pv (swp d i j) a b (i + 1) (j - 1) := by
  have hjb := h.jb
  have hai := h.ai
  have hs := fun k => swp_ele (d := d) (i := i) (j := j) (by omega) (by omega) k
  refine ⟨?_, fun k h1 h2 => ?_, fun k h1 h2 => ?_, by omega, by omega, by omega⟩
  · rw [hs, if_neg (by omega : ¬ a = j), if_neg (by omega : ¬ a = i)]; exact h.piv
  · rw [hs, if_neg (by omega : ¬ k = j)]
    by_cases e : k = i
    · rw [if_pos e]; exact hj
    · rw [if_neg e]; exact h.lo k h1 (by omega)
  · rw [hs]
    by_cases e : k = j
    · rw [if_pos e]; exact hi
    · rw [if_neg e, if_neg (by omega : ¬ k = i)]; exact h.hi k (by omega) h2
theorem Part.start (hp : ele d a = pv) (hab : a + 1 ≤ b) : Part Lo Hi pv d a b (a + 1) (b - 1) :=
  ⟨hp, fun k h1 h2 => by omega, fun k h1 h2 => by omega, by omega, by omega, by omega⟩
end

def PtU (w : World) (base g n cap : Nat) (Lo Hi : Int → Prop) (pv : Int) (d0 : List Int) (a b : Nat) (v u : Value) (wr : World) : Prop := ∃ (i j : Nat) (d : List Int), v = .int .i64 i ∧ u = .int .i64 j ∧ Part Lo Hi pv d a b i j ∧ RowU w base g n cap d0 a b d wr
def PtI (w : World) (base g n cap : Nat) (Lo Hi : Int → Prop) (pv : Int) (d0 : List Int) (a b j i0 : Nat) (d : List Int) (v : Value) (wr : World) : Prop := ∃ (i : Nat), v = .int .i64 i ∧ i0 ≤ i ∧ Part Lo Hi pv d a b i j ∧ RowU w base g n cap d0 a b d wr
def PtJ (w : World) (base g n cap : Nat) (Lo Hi : Int → Prop) (pv : Int) (d0 : List Int) (a b i j0 : Nat) (d : List Int) (u : Value) (wr : World) : Prop := ∃ (j : Nat), u = .int .i64 j ∧ j ≤ j0 ∧ Part Lo Hi pv d a b i j ∧ RowU w base g n cap d0 a b d wr ∧ (i ≤ j → Hi (ele d i))

set_option maxRecDepth 100000 in
set_option maxHeartbeats 8000000 in
theorem parteq_u (off base g n cap a b p : Nat) (d : List Int) (w : World) (hoff : off = 0) (h : RowW w base g n cap d) (hap : a ≤ p) (hpb : p < b) (hb : b ≤ n) (hsz : n ≤ 255) :
    Calls Try.prog 34 #[.slice (some ⟨g, off, none⟩) n cap, .int .i64 a, .int .i64 b, .int .i64 p] w fun e w' =>
      ∃ (i : Nat) (d' : List Int), e = .returned (.int .i64 i) ∧ RowU w base g n cap d a b d' w' ∧ a < i ∧ i ≤ b ∧ (∀ k, a ≤ k → k < i → ele d' k ≤ ele d p) ∧ (∀ k, i ≤ k → k < b → ele d p < ele d' k) := by
  have HO := Lib.hid hoff
  have hrow := RowU.start h a b
  have HR := Lib.hid hrow
  have HPB := Lib.hid hpb
  have HAP := Lib.hid hap
  have HB := Lib.hid hb
  have hpn : p < n := by omega
  have han : a < n := by omega
  have hb255 : b ≤ 255 := by omega
  obtain ⟨wr, hwr⟩ : ∃ wr, wr = w := ⟨_, rfl⟩
  rw [← hwr] at hrow
  obtain ⟨G, hG⟩ : ∃ G : Nat → Int, ∀ t, G t = ele d t := ⟨fun t => ele d t, fun _ => rfl⟩
  have hcw : ∀ t, t < n → wr.cell? ⟨g, off + t, none⟩ = some (.int .u64 (G t)) := fun t ht => by rw [hG, HO.out, Nat.zero_add]; exact hrow.cell t ht
  have hfw : ∀ t, t < n → wr.frozen? ⟨g, off + t, none⟩ = false := fun t _ => by rw [HO.out, Nat.zero_add]; exact hrow.frozen t
  have HG := Lib.hid hG
  clear hG
  rw [hwr] at hcw hfw
  clear hrow h hoff hap hpb hb hwr wr
  go_enter Try.func34, Try.ntmps34
  by_cases hpa : p = a
  · have hpa' := hpa.symm
    subst hpa'
    go_wp2
    go_region
    all_goals go_wp2
    have hw1 : RowU w base g n cap d a b (swp d a a) (((w.drewN 1).setCell ⟨g, off + a, none⟩ (.int .u64 (G a))).setCell ⟨g, off + a, none⟩ (.int .u64 (G a))) := by
      rw [HG.out, HO.out, Nat.zero_add]
      exact (HR.out.drewN 1).swap ⟨Nat.le_refl _, by have := HAP.out; have := HPB.out; omega⟩ ⟨HAP.out, HPB.out⟩ HB.out
    have H1R := Lib.hid hw1
    have H1P := Lib.hid (show Part (· ≤ ele d a) (ele d a < ·) (ele d a) (swp d a a) a b (a + 1) (b - 1) from Part.start (by rw [swp_ele (by rw [HR.out.len]; exact han) (by rw [HR.out.len]; exact han), if_pos rfl]) (by have := HAP.out; have := HPB.out; omega))
    have hb1 : 1 ≤ b := by have := HPB.out; omega
    clear hw1 hcw hfw HG
    go_loopw [9, 10] (PtU w base g n cap (· ≤ ele d a) (ele d a < ·) (ele d a) d a b) (fun v u _ => cnt u + 1 - cnt v)
    case atStart => exact ⟨a + 1, b - 1, _, by go_num, by congr 1; omega, H1P.out, H1R.out⟩
    case round =>
      obtain ⟨i, j, dk, rfl, rfl, hp, hr⟩ := hrel
      have HP := Lib.hid hp
      have HRK := Lib.hid hr
      have hjn : j < n := by have := hp.jb; have := HB.out; omega
      have hj255 : j < 255 := by omega
      clear hp hr
      go_wp2
      obtain ⟨wo, rfl⟩ : ∃ wo : World, wo = wr := ⟨_, rfl⟩
      go_loopw [9] (PtI w base g n cap (· ≤ ele d a) (ele d a < ·) (ele d a) d a b j i dk) (fun v _ => j + 1 - cnt v)
      case atStart => exact ⟨i, rfl, Nat.le_refl _, HP.out, HRK.out⟩
      case round =>
        obtain ⟨i', rfl, hi0, hp1, hr1⟩ := hrel
        have HI0 := Lib.hid hi0
        obtain ⟨G, hG⟩ : ∃ G : Nat → Int, ∀ t, G t = ele dk t := ⟨fun t => ele dk t, fun _ => rfl⟩
        have hcw : ∀ t, t < n → wr.cell? ⟨g, off + t, none⟩ = some (.int .u64 (G t)) := fun t ht => by rw [hG, HO.out, Nat.zero_add]; exact hr1.cell t ht
        have hfw : ∀ t, t < n → wr.frozen? ⟨g, off + t, none⟩ = false := fun t _ => by rw [HO.out, Nat.zero_add]; exact hr1.frozen t
        have HG := Lib.hid hG
        clear hG
        have HP1 := Lib.hid hp1
        have HR1 := Lib.hid hr1
        have hin : (i' : Int) < 300 := by have := hp1.ij; have := hp1.jb; omega
        clear hp1 hr1 hi0
        go_wp2
        by_cases hij : i' ≤ j
        · have hi'n : i' < n := by omega
          go_quiet (first | (go_at_call 33; refine Calls.quiet_of_same (less_u _ _ _)))
          go_wp2
          · have hl : ltU (G a) (G i') = false := by simpa using ‹(!ltU (G a) (G i')) = true›
            go_roundw
            case rel => exact ⟨i' + 1, by go_num, by have := HI0.out; omega, HP1.out.up hij (by have := ltU_f hl; rw [HG.out, HG.out, HP1.out.piv] at this; exact this), HR1.out.drewN _⟩
            case measure => simp [cnt]; omega
          · have hl : ltU (G a) (G i') = true := by simpa using ‹(!ltU (G a) (G i')) = false›
            have HX := Lib.hid (show i' ≤ j → ele d a < ele dk i' from fun _ => by have := ltU_t hl; rw [HG.out, HG.out, HP1.out.piv] at this; exact this)
            have HPP := HP1
            have HRR := Lib.hid (HR1.out.drewN nq)
            simp only [hl, Bool.not_true]
            clear hcw hfw HG hl hij
            go_loopw [10] (PtJ w base g n cap (· ≤ ele d a) (ele d a < ·) (ele d a) d a b i' j dk) (fun u _ => cnt u)
            case atStart => exact ⟨j, rfl, Nat.le_refl _, HPP.out, HRR.out, HX.out⟩
            case round =>
              obtain ⟨j', rfl, hj0, hp2, hr2, hx2⟩ := hrel
              have HJ0 := Lib.hid hj0
              obtain ⟨G, hG⟩ : ∃ G : Nat → Int, ∀ t, G t = ele dk t := ⟨fun t => ele dk t, fun _ => rfl⟩
              have hcw : ∀ t, t < n → wr.cell? ⟨g, off + t, none⟩ = some (.int .u64 (G t)) := fun t ht => by rw [hG, HO.out, Nat.zero_add]; exact hr2.cell t ht
              have hfw : ∀ t, t < n → wr.frozen? ⟨g, off + t, none⟩ = false := fun t _ => by rw [HO.out, Nat.zero_add]; exact hr2.frozen t
              have HG := Lib.hid hG
              clear hG
              have HP2 := Lib.hid hp2
              have HR2 := Lib.hid hr2
              have HX2 := Lib.hid hx2
              have hjn : j' < n := by have := hp2.jb; have := HB.out; omega
              have hj255 : j' < 255 := by omega
              clear hp2 hr2 hx2 hj0
              go_wp2
              by_cases hij2 : i' ≤ j'
              · have hj1 : 1 ≤ j' := by have := HP2.out.ai; omega
                go_quiet (first | (go_at_call 33; refine Calls.quiet_of_same (less_u _ _ _)))
                go_wp2
                · have hl : ltU (G a) (G j') = true := by assumption
                  go_roundw
                  case rel => exact ⟨j' - 1, by congr 1; omega, by have := HJ0.out; omega, HP2.out.down hij2 (by have := ltU_t hl; rw [HG.out, HG.out, HP2.out.piv] at this; exact this), HR2.out.drewN _, fun h => HX2.out (by omega)⟩
                  case measure => simp [cnt]; omega
                · have hl : ltU (G a) (G j') = false := by assumption
                  have hlo : ele dk j' ≤ ele d a := by have := ltU_f hl; rw [HG.out, HG.out, HP2.out.piv] at this; exact this
                  have hhi := HX2.out hij2
                  have hne : i' < j' := by
                    rcases Nat.lt_or_ge i' j' with h | h
                    · exact h
                    · have e : i' = j' := by omega
                      rw [e] at hhi
                      exact absurd hlo (by omega)
                  have HLo := Lib.hid hlo
                  have HHi := Lib.hid hhi
                  clear hlo hhi
                  go_region
                  all_goals go_wp2
                  go_roundw
                  case rel =>
                    refine ⟨i' + 1, j' - 1, swp dk i' j', by go_num, by congr 1; omega, HP2.out.swap hne (by rw [HR2.out.len]; exact HB.out) HHi.out HLo.out, ?_⟩
                    rw [HG.out, HG.out, HO.out, Nat.zero_add, Nat.zero_add]
                    exact (HR2.out.drewN _).swap ⟨by have := HP2.out.ai; omega, by have := HP2.out.jb; omega⟩ ⟨by have := HP2.out.ai; omega, HP2.out.jb⟩ HB.out
                  case measure => simp [cnt]; have := HJ0.out; have := HI0.out; omega
              · go_quiet (first | (go_at_call 33; refine Calls.quiet_of_same (less_u _ _ _)))
                go_wp2
                go_ret
                refine ⟨i', dk, rfl, HR2.out.drewN _, HP2.out.ai, by have := HP2.out.jb; have := HP2.out.ij; omega, fun k h1 h2 => ?_, fun k h1 h2 => HP2.out.hi k (by omega) h2⟩
                by_cases e : k = a
                · rw [e, HP2.out.piv]; exact Int.le_refl _
                · exact HP2.out.lo k (by omega) h2
        · go_quiet (first | (go_at_call 33; refine Calls.quiet_of_same (less_u _ _ _)))
          go_wp2
          have HX := Lib.hid (show i' ≤ j → ele d a < ele dk i' from fun h => absurd h hij)
          have HPP := HP1
          have HRR := Lib.hid (HR1.out.drewN nq)
          clear hcw hfw HG hij
          go_loopw [10] (PtJ w base g n cap (· ≤ ele d a) (ele d a < ·) (ele d a) d a b i' j dk) (fun u _ => cnt u)
          case atStart => exact ⟨j, rfl, Nat.le_refl _, HPP.out, HRR.out, HX.out⟩
          case round =>
            obtain ⟨j', rfl, hj0, hp2, hr2, hx2⟩ := hrel
            have HJ0 := Lib.hid hj0
            obtain ⟨G, hG⟩ : ∃ G : Nat → Int, ∀ t, G t = ele dk t := ⟨fun t => ele dk t, fun _ => rfl⟩
            have hcw : ∀ t, t < n → wr.cell? ⟨g, off + t, none⟩ = some (.int .u64 (G t)) := fun t ht => by rw [hG, HO.out, Nat.zero_add]; exact hr2.cell t ht
            have hfw : ∀ t, t < n → wr.frozen? ⟨g, off + t, none⟩ = false := fun t _ => by rw [HO.out, Nat.zero_add]; exact hr2.frozen t
            have HG := Lib.hid hG
            clear hG
            have HP2 := Lib.hid hp2
            have HR2 := Lib.hid hr2
            have HX2 := Lib.hid hx2
            have hjn : j' < n := by have := hp2.jb; have := HB.out; omega
            have hj255 : j' < 255 := by omega
            clear hp2 hr2 hx2 hj0
            go_wp2
            by_cases hij2 : i' ≤ j'
            · have hj1 : 1 ≤ j' := by have := HP2.out.ai; omega
              go_quiet (first | (go_at_call 33; refine Calls.quiet_of_same (less_u _ _ _)))
              go_wp2
              · have hl : ltU (G a) (G j') = true := by assumption
                go_roundw
                case rel => exact ⟨j' - 1, by congr 1; omega, by have := HJ0.out; omega, HP2.out.down hij2 (by have := ltU_t hl; rw [HG.out, HG.out, HP2.out.piv] at this; exact this), HR2.out.drewN _, fun h => HX2.out (by omega)⟩
                case measure => simp [cnt]; omega
              · have hl : ltU (G a) (G j') = false := by assumption
                have hlo : ele dk j' ≤ ele d a := by have := ltU_f hl; rw [HG.out, HG.out, HP2.out.piv] at this; exact this
                have hhi := HX2.out hij2
                have hne : i' < j' := by
                  rcases Nat.lt_or_ge i' j' with h | h
                  · exact h
                  · have e : i' = j' := by omega
                    rw [e] at hhi
                    exact absurd hlo (by omega)
                have HLo := Lib.hid hlo
                have HHi := Lib.hid hhi
                clear hlo hhi
                go_region
                all_goals go_wp2
                go_roundw
                case rel =>
                  refine ⟨i' + 1, j' - 1, swp dk i' j', by go_num, by congr 1; omega, HP2.out.swap hne (by rw [HR2.out.len]; exact HB.out) HHi.out HLo.out, ?_⟩
                  rw [HG.out, HG.out, HO.out, Nat.zero_add, Nat.zero_add]
                  exact (HR2.out.drewN _).swap ⟨by have := HP2.out.ai; omega, by have := HP2.out.jb; omega⟩ ⟨by have := HP2.out.ai; omega, HP2.out.jb⟩ HB.out
                case measure => simp [cnt]; have := HJ0.out; have := HI0.out; omega
            · go_quiet (first | (go_at_call 33; refine Calls.quiet_of_same (less_u _ _ _)))
              go_wp2
              go_ret
              refine ⟨i', dk, rfl, HR2.out.drewN _, HP2.out.ai, by have := HP2.out.jb; have := HP2.out.ij; omega, fun k h1 h2 => ?_, fun k h1 h2 => HP2.out.hi k (by omega) h2⟩
              by_cases e : k = a
              · rw [e, HP2.out.piv]; exact Int.le_refl _
              · exact HP2.out.lo k (by omega) h2
  · go_wp2
    go_region
    all_goals go_wp2
    have hw1 : RowU w base g n cap d a b (swp d a p) (((w.drewN 1).setCell ⟨g, off + a, none⟩ (.int .u64 (G p))).setCell ⟨g, off + p, none⟩ (.int .u64 (G a))) := by
      rw [HG.out, HG.out, HO.out, Nat.zero_add, Nat.zero_add]
      exact (HR.out.drewN 1).swap ⟨Nat.le_refl _, by have := HAP.out; have := HPB.out; omega⟩ ⟨HAP.out, HPB.out⟩ HB.out
    have H1R := Lib.hid hw1
    have H1P := Lib.hid (show Part (· ≤ ele d p) (ele d p < ·) (ele d p) (swp d a p) a b (a + 1) (b - 1) from Part.start (by rw [swp_ele (by rw [HR.out.len]; exact han) (by rw [HR.out.len]; exact hpn), if_neg (by omega : ¬ a = p), if_pos rfl]) (by have := HAP.out; have := HPB.out; omega))
    have hb1 : 1 ≤ b := by have := HPB.out; omega
    clear hw1 hcw hfw HG
    go_loopw [9, 10] (PtU w base g n cap (· ≤ ele d p) (ele d p < ·) (ele d p) d a b) (fun v u _ => cnt u + 1 - cnt v)
    case atStart => exact ⟨a + 1, b - 1, _, by go_num, by congr 1; omega, H1P.out, H1R.out⟩
    case round =>
      obtain ⟨i, j, dk, rfl, rfl, hp, hr⟩ := hrel
      have HP := Lib.hid hp
      have HRK := Lib.hid hr
      have hjn : j < n := by have := hp.jb; have := HB.out; omega
      have hj255 : j < 255 := by omega
      clear hp hr
      go_wp2
      obtain ⟨wo, rfl⟩ : ∃ wo : World, wo = wr := ⟨_, rfl⟩
      go_loopw [9] (PtI w base g n cap (· ≤ ele d p) (ele d p < ·) (ele d p) d a b j i dk) (fun v _ => j + 1 - cnt v)
      case atStart => exact ⟨i, rfl, Nat.le_refl _, HP.out, HRK.out⟩
      case round =>
        obtain ⟨i', rfl, hi0, hp1, hr1⟩ := hrel
        have HI0 := Lib.hid hi0
        obtain ⟨G, hG⟩ : ∃ G : Nat → Int, ∀ t, G t = ele dk t := ⟨fun t => ele dk t, fun _ => rfl⟩
        have hcw : ∀ t, t < n → wr.cell? ⟨g, off + t, none⟩ = some (.int .u64 (G t)) := fun t ht => by rw [hG, HO.out, Nat.zero_add]; exact hr1.cell t ht
        have hfw : ∀ t, t < n → wr.frozen? ⟨g, off + t, none⟩ = false := fun t _ => by rw [HO.out, Nat.zero_add]; exact hr1.frozen t
        have HG := Lib.hid hG
        clear hG
        have HP1 := Lib.hid hp1
        have HR1 := Lib.hid hr1
        have hin : (i' : Int) < 300 := by have := hp1.ij; have := hp1.jb; omega
        clear hp1 hr1 hi0
        go_wp2
        by_cases hij : i' ≤ j
        · have hi'n : i' < n := by omega
          go_quiet (first | (go_at_call 33; refine Calls.quiet_of_same (less_u _ _ _)))
          go_wp2
          · have hl : ltU (G a) (G i') = false := by simpa using ‹(!ltU (G a) (G i')) = true›
            go_roundw
            case rel => exact ⟨i' + 1, by go_num, by have := HI0.out; omega, HP1.out.up hij (by have := ltU_f hl; rw [HG.out, HG.out, HP1.out.piv] at this; exact this), HR1.out.drewN _⟩
            case measure => simp [cnt]; omega
          · have hl : ltU (G a) (G i') = true := by simpa using ‹(!ltU (G a) (G i')) = false›
            have HX := Lib.hid (show i' ≤ j → ele d p < ele dk i' from fun _ => by have := ltU_t hl; rw [HG.out, HG.out, HP1.out.piv] at this; exact this)
            have HPP := HP1
            have HRR := Lib.hid (HR1.out.drewN nq)
            simp only [hl, Bool.not_true]
            clear hcw hfw HG hl hij
            go_loopw [10] (PtJ w base g n cap (· ≤ ele d p) (ele d p < ·) (ele d p) d a b i' j dk) (fun u _ => cnt u)
            case atStart => exact ⟨j, rfl, Nat.le_refl _, HPP.out, HRR.out, HX.out⟩
            case round =>
              obtain ⟨j', rfl, hj0, hp2, hr2, hx2⟩ := hrel
              have HJ0 := Lib.hid hj0
              obtain ⟨G, hG⟩ : ∃ G : Nat → Int, ∀ t, G t = ele dk t := ⟨fun t => ele dk t, fun _ => rfl⟩
              have hcw : ∀ t, t < n → wr.cell? ⟨g, off + t, none⟩ = some (.int .u64 (G t)) := fun t ht => by rw [hG, HO.out, Nat.zero_add]; exact hr2.cell t ht
              have hfw : ∀ t, t < n → wr.frozen? ⟨g, off + t, none⟩ = false := fun t _ => by rw [HO.out, Nat.zero_add]; exact hr2.frozen t
              have HG := Lib.hid hG
              clear hG
              have HP2 := Lib.hid hp2
              have HR2 := Lib.hid hr2
              have HX2 := Lib.hid hx2
              have hjn : j' < n := by have := hp2.jb; have := HB.out; omega
              have hj255 : j' < 255 := by omega
              clear hp2 hr2 hx2 hj0
              go_wp2
              by_cases hij2 : i' ≤ j'
              · have hj1 : 1 ≤ j' := by have := HP2.out.ai; omega
                go_quiet (first | (go_at_call 33; refine Calls.quiet_of_same (less_u _ _ _)))
                go_wp2
                · have hl : ltU (G a) (G j') = true := by assumption
                  go_roundw
                  case rel => exact ⟨j' - 1, by congr 1; omega, by have := HJ0.out; omega, HP2.out.down hij2 (by have := ltU_t hl; rw [HG.out, HG.out, HP2.out.piv] at this; exact this), HR2.out.drewN _, fun h => HX2.out (by omega)⟩
                  case measure => simp [cnt]; omega
                · have hl : ltU (G a) (G j') = false := by assumption
                  have hlo : ele dk j' ≤ ele d p := by have := ltU_f hl; rw [HG.out, HG.out, HP2.out.piv] at this; exact this
                  have hhi := HX2.out hij2
                  have hne : i' < j' := by
                    rcases Nat.lt_or_ge i' j' with h | h
                    · exact h
                    · have e : i' = j' := by omega
                      rw [e] at hhi
                      exact absurd hlo (by omega)
                  have HLo := Lib.hid hlo
                  have HHi := Lib.hid hhi
                  clear hlo hhi
                  go_region
                  all_goals go_wp2
                  go_roundw
                  case rel =>
                    refine ⟨i' + 1, j' - 1, swp dk i' j', by go_num, by congr 1; omega, HP2.out.swap hne (by rw [HR2.out.len]; exact HB.out) HHi.out HLo.out, ?_⟩
                    rw [HG.out, HG.out, HO.out, Nat.zero_add, Nat.zero_add]
                    exact (HR2.out.drewN _).swap ⟨by have := HP2.out.ai; omega, by have := HP2.out.jb; omega⟩ ⟨by have := HP2.out.ai; omega, HP2.out.jb⟩ HB.out
                  case measure => simp [cnt]; have := HJ0.out; have := HI0.out; omega
              · go_quiet (first | (go_at_call 33; refine Calls.quiet_of_same (less_u _ _ _)))
                go_wp2
                go_ret
                refine ⟨i', dk, rfl, HR2.out.drewN _, HP2.out.ai, by have := HP2.out.jb; have := HP2.out.ij; omega, fun k h1 h2 => ?_, fun k h1 h2 => HP2.out.hi k (by omega) h2⟩
                by_cases e : k = a
                · rw [e, HP2.out.piv]; exact Int.le_refl _
                · exact HP2.out.lo k (by omega) h2
        · go_quiet (first | (go_at_call 33; refine Calls.quiet_of_same (less_u _ _ _)))
          go_wp2
          have HX := Lib.hid (show i' ≤ j → ele d p < ele dk i' from fun h => absurd h hij)
          have HPP := HP1
          have HRR := Lib.hid (HR1.out.drewN nq)
          clear hcw hfw HG hij
          go_loopw [10] (PtJ w base g n cap (· ≤ ele d p) (ele d p < ·) (ele d p) d a b i' j dk) (fun u _ => cnt u)
          case atStart => exact ⟨j, rfl, Nat.le_refl _, HPP.out, HRR.out, HX.out⟩
          case round =>
            obtain ⟨j', rfl, hj0, hp2, hr2, hx2⟩ := hrel
            have HJ0 := Lib.hid hj0
            obtain ⟨G, hG⟩ : ∃ G : Nat → Int, ∀ t, G t = ele dk t := ⟨fun t => ele dk t, fun _ => rfl⟩
            have hcw : ∀ t, t < n → wr.cell? ⟨g, off + t, none⟩ = some (.int .u64 (G t)) := fun t ht => by rw [hG, HO.out, Nat.zero_add]; exact hr2.cell t ht
            have hfw : ∀ t, t < n → wr.frozen? ⟨g, off + t, none⟩ = false := fun t _ => by rw [HO.out, Nat.zero_add]; exact hr2.frozen t
            have HG := Lib.hid hG
            clear hG
            have HP2 := Lib.hid hp2
            have HR2 := Lib.hid hr2
            have HX2 := Lib.hid hx2
            have hjn : j' < n := by have := hp2.jb; have := HB.out; omega
            have hj255 : j' < 255 := by omega
            clear hp2 hr2 hx2 hj0
            go_wp2
            by_cases hij2 : i' ≤ j'
            · have hj1 : 1 ≤ j' := by have := HP2.out.ai; omega
              go_quiet (first | (go_at_call 33; refine Calls.quiet_of_same (less_u _ _ _)))
              go_wp2
              · have hl : ltU (G a) (G j') = true := by assumption
                go_roundw
                case rel => exact ⟨j' - 1, by congr 1; omega, by have := HJ0.out; omega, HP2.out.down hij2 (by have := ltU_t hl; rw [HG.out, HG.out, HP2.out.piv] at this; exact this), HR2.out.drewN _, fun h => HX2.out (by omega)⟩
                case measure => simp [cnt]; omega
              · have hl : ltU (G a) (G j') = false := by assumption
                have hlo : ele dk j' ≤ ele d p := by have := ltU_f hl; rw [HG.out, HG.out, HP2.out.piv] at this; exact this
                have hhi := HX2.out hij2
                have hne : i' < j' := by
                  rcases Nat.lt_or_ge i' j' with h | h
                  · exact h
                  · have e : i' = j' := by omega
                    rw [e] at hhi
                    exact absurd hlo (by omega)
                have HLo := Lib.hid hlo
                have HHi := Lib.hid hhi
                clear hlo hhi
                go_region
                all_goals go_wp2
                go_roundw
                case rel =>
                  refine ⟨i' + 1, j' - 1, swp dk i' j', by go_num, by congr 1; omega, HP2.out.swap hne (by rw [HR2.out.len]; exact HB.out) HHi.out HLo.out, ?_⟩
                  rw [HG.out, HG.out, HO.out, Nat.zero_add, Nat.zero_add]
                  exact (HR2.out.drewN _).swap ⟨by have := HP2.out.ai; omega, by have := HP2.out.jb; omega⟩ ⟨by have := HP2.out.ai; omega, HP2.out.jb⟩ HB.out
                case measure => simp [cnt]; have := HJ0.out; have := HI0.out; omega
            · go_quiet (first | (go_at_call 33; refine Calls.quiet_of_same (less_u _ _ _)))
              go_wp2
              go_ret
              refine ⟨i', dk, rfl, HR2.out.drewN _, HP2.out.ai, by have := HP2.out.jb; have := HP2.out.ij; omega, fun k h1 h2 => ?_, fun k h1 h2 => HP2.out.hi k (by omega) h2⟩
              by_cases e : k = a
              · rw [e, HP2.out.piv]; exact Int.le_refl _
              · exact HP2.out.lo k (by omega) h2
end Go.Proofs.Ythnefhkacgkacaa
