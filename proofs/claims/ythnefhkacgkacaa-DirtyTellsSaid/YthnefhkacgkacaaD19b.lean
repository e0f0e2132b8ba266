/- What was noted since the last Collect, and not forgotten, is told, once, rising: DirtyTells' walk. -/
import Derived.Test.YthnefhkacgkacaaTel
import Derived.Test.YthnefhkacgkacaaMask
namespace Go.Proofs.Ythnefhkacgkacaa
open Go.RowKit Mf

/-- The steps so far. -/
def TelR (w : World) (b B m : Nat) (L : Nat → Int) (F : Nat → Bool) (v9 v10 : Value) (wr : World) : Prop := ∃ (i f : Nat) (P : Int → Bool), v9 = .int .i64 f ∧ v10 = .int .i64 i ∧ i ≤ m ∧ OffS w b B true P (2 * i) wr ∧ Tel L F i f P

/-- A counter, and a world in which no old block has turned. -/
def BelR (w5 : World) (X : Nat) (v : Value) (wr : World) : Prop := ∃ t : Nat, v = .int .i64 t ∧ t ≤ X ∧ Below w5.heap.size w5 wr
def BelF (w5 : World) (f m : Nat) (v : Value) (wr : World) : Prop := ∃ t : Nat, v = .int .i64 t ∧ f ≤ t ∧ t ≤ m ∧ Below w5.heap.size w5 wr
def SnR (w5 : World) (L : Nat → Int) (x : Int) (f m : Nat) (vs vk : Value) (wr : World) : Prop := ∃ d : Nat, f + d ≤ m ∧ vk = .int .i64 (f + d : Nat) ∧ vs = .bool (seenB L x f d) ∧ Below w5.heap.size w5 wr
def GnR (w5 : World) (L : Nat → Int) (F : Nat → Bool) (k m : Nat) (vs vk : Value) (wr : World) : Prop := ∃ d : Nat, k + d ≤ m ∧ vk = .int .i64 (k + d : Nat) ∧ vs = .bool (gone L F (L k) k d) ∧ Below w5.heap.size w5 wr

set_option maxRecDepth 100000 in
set_option maxHeartbeats 8000000 in
theorem dirtyTells_walk (A0 A1 : Option Addr) (n0 n1 c0 c1 : Nat) (xs0 xs1 : List Value) (a2 : Int) (w : World) (hr0 : Reads w w.heap.size 1 A0 n0 xs0) (hx0 : ∀ u ∈ xs0, ∃ i, u = .int .u64 i ∧ (Lit.int .u64 i).wf = true)
    (hr1 : Reads w w.heap.size 1 A1 n1 xs1) (hx1 : ∀ j u k, xs1[j]? = some u → ([CK.b])[j % ([CK.b]).length]? = some k → CellOk k u) (hn1 : n1 ≤ maxLen) :
    Calls Try.prog 4 #[.slice A0 n0 c0, .slice A1 n1 c1, .int .i64 a2] w fun e w' => e = .returned (.bool true) ∧ Below w.heap.size w w' := by
  obtain ⟨ls, rfl, hl⟩ := words_of hx0
  obtain ⟨bs, rfl⟩ := bools_of_cells hx1
  have HL := Lib.hid hl
  have HR := Lib.hid hr0
  have HS := Lib.hid hr1
  have hlen : ls.length = n0 := by have := hr0.1; simp at this; exact this
  have HLR := Lib.hid (show ∀ k, k < n0 → 0 ≤ ele ls k ∧ ele ls k < 18446744073709551616 from fun k hk => hl _ (List.mem_of_getElem? (ele_some (by omega))))
  have HN1 := Lib.hid hn1
  clear hx0 hx1 hl hr0 hr1 hlen hn1
  obtain ⟨F, hF⟩ : ∃ F : Nat → Bool, ∀ t, F t = (decide (t < n1) && bel bs t) := ⟨fun t => decide (t < n1) && bel bs t, fun _ => rfl⟩
  have HF := Lib.hid hF
  clear hF
  obtain ⟨q, hq⟩ : ∃ q : Nat, bits .and .i64 a2 63 = (q : Int) := ⟨(a2 % 64).toNat, by rw [show (63 : Int) = 2 ^ 6 - 1 by decide, mask64 a2 6 (by decide)]; omega⟩
  go_enter Try.func4, Try.ntmps4
  go_wp2_with fail
  refine (dnew_any _).mono ?_; rintro e w1 ⟨rfl, h1, hb1⟩
  have H1 := Lib.hid (show OffS w (w.heap.size + 1) w.heap.size false (fun _ => false) 0 w1 from ⟨h1, hb1, rfl, Nat.le_succ _⟩)
  clear h1 hb1
  go_wp2_with fail
  refine (dstart_off _ _ _ _ _ H1.out.log H1.out.room).mono ?_; rintro e w2 ⟨rfl, h2, ho2⟩
  have H2 := Lib.hid (H1.out.step h2 ho2)
  clear h2 ho2
  go_wp2_with fail
  obtain ⟨m, hm, hmn, hm80⟩ : ∃ m : Nat, min (n0 : Int) 80 = m ∧ m ≤ n0 ∧ m ≤ 80 := ⟨min n0 80, by omega, by omega, by omega⟩
  rw [hm]
  have HM80 := Lib.hid hm80
  have HMN := Lib.hid hmn
  clear hm hm80
  go_loopw [9, 10] (TelR w (w.heap.size + 1) w.heap.size m (ele ls) F) (fun _ v _ => m - cnt v)
  case atStart => exact ⟨0, 0, _, rfl, rfl, Nat.zero_le _, H2.out, Tel.start _ _⟩
  case round =>
    obtain ⟨i, f, P, rfl, rfl, hi, ho, ht⟩ := hrel
    have HO := Lib.hid ho
    have HT := Lib.hid ht
    have hfi := ht.le
    clear ho ht
    by_cases him : i < m
    · have hi80 : i < 80 := by have := HM80.out; omega
      have hin : i < n0 := by omega
      obtain ⟨ad, rfl, hc⟩ := reads_e (HR.out.below HO.out.old) hin
      have hxr := HLR.out i hin
      go_wp2_with fail
      refine (dnote_on _ _ _ _ (ele ls i) _ HO.out.log hxr (by have := HM80.out; unfold maxLen; omega)).mono ?_; rintro e w3 ⟨rfl, h3, ho3⟩
      have H3 := Lib.hid (HO.out.step h3 ho3)
      clear h3 ho3 hc
      by_cases hn : i < n1
      · obtain ⟨ad1, rfl, hc1⟩ := reads_b (HS.out.below H3.out.old) hn
        cases hb : bel bs i
        · rw [hb] at hc1
          have HST := Lib.hid (show stp (ele ls) F P i = fun x => P x || x == ele ls i from by unfold stp; rw [if_neg (by rw [HF.out, hb]; simp)])
          clear hb
          by_cases hiq : i = q
          · subst hiq
            go_wp2_with fail
            refine (dcoll_on _ _ _ _ _ H3.out.log (by have := HM80.out; omega) H3.out.room (sortOk_le (by have := HM80.out; omega))).mono ?_; rintro e w5 ⟨v, ys, rfl, hy1, hy2, hown, h5, ho5⟩
            have H5 := Lib.hid (H3.out.step h5 ho5)
            clear hy1 hy2 hown h5 ho5
            go_wp2
            go_roundw
            case rel => exact ⟨i + 1, i + 1, _, by go_num, by go_num, by omega, ⟨H5.out.log.mono (Nat.zero_le _), H5.out.old, H5.out.hB, H5.out.hb⟩, Tel.fresh _ _ _⟩
            case measure => simp [cnt]; omega
          · have hiq' : (i == q) = false := by simpa using hiq
            have hiq2 : ((i : Int) == (q : Int)) = false := by rw [beq_eq_false_iff_ne]; omega
            go_wp2
            go_roundw
            case rel => exact ⟨i + 1, f, _, rfl, by go_num, by omega, ⟨H3.out.log.mono (by omega), H3.out.old, H3.out.hB, H3.out.hb⟩, by rw [← HST.out]; exact HT.out.step⟩
            case measure => simp [cnt]; omega
        · rw [hb] at hc1
          have HST := Lib.hid (show stp (ele ls) F P i = fun x => (P x || x == ele ls i) && !(x == ele ls (i / 2)) from by unfold stp; rw [if_pos (by rw [HF.out, hb]; simp [hn])])
          clear hb
          have hc2 := reads_e2 (HR.out.below H3.out.old) (show i / 2 < n0 by omega)
          have hxr2 := HLR.out (i / 2) (by omega)
          go_wp2_with fail
          refine (dforget_any _ _ _ _ _ (ele ls (i / 2)) _ H3.out.log hxr2 (by have := HM80.out; unfold maxLen; omega)).mono ?_; rintro e w4 ⟨rfl, h4, ho4⟩
          have H4 := Lib.hid (H3.out.step h4 ho4)
          clear h4 ho4 hc2 hc1
          obtain ⟨z, hz⟩ : ∃ z, (P (ele ls (i / 2)) || ele ls (i / 2) == ele ls i) = z := ⟨_, rfl⟩
          rw [hz]
          have HZ := Lib.hid hz
          clear hz
          cases z
          · have hz' : f ≤ i / 2 → i = f → False := fun h1 h2 => by
              have := Tel.first (P := P) (L := ele ls) h1 h2
              rw [HZ.out] at this
              cases this
            by_cases h1 : f ≤ i / 2
            · have h2 : ¬ i = f := fun e => hz' h1 e
              have d1 : decide ((f : Int) ≤ (i : Int) / 2) = true := by simp; omega
              have d2 : (i == f) = false := by simpa using h2
              have d3 : ((i : Int) == (f : Int)) = false := by rw [beq_eq_false_iff_ne]; omega
              clear hz'
              by_cases hiq : i = q
              · subst hiq
                go_wp2_with fail
                refine (dcoll_on _ _ _ _ _ H4.out.log (by have := HM80.out; omega) H4.out.room (sortOk_le (by have := HM80.out; omega))).mono ?_; rintro e w5 ⟨v, ys, rfl, hy1, hy2, hown, h5, ho5⟩
                have H5 := Lib.hid (H4.out.step h5 ho5)
                clear hy1 hy2 hown h5 ho5
                go_wp2
                go_roundw
                case rel => exact ⟨i + 1, i + 1, _, by go_num, by go_num, by omega, ⟨H5.out.log.mono (Nat.zero_le _), H5.out.old, H5.out.hB, H5.out.hb⟩, Tel.fresh _ _ _⟩
                case measure => simp [cnt]; omega
              · have hiq' : (i == q) = false := by simpa using hiq
                have hiq2 : ((i : Int) == (q : Int)) = false := by rw [beq_eq_false_iff_ne]; omega
                go_wp2
                go_roundw
                case rel => exact ⟨i + 1, f, _, rfl, by go_num, by omega, ⟨H4.out.log.mono (by omega), H4.out.old, H4.out.hB, H4.out.hb⟩, by rw [← HST.out]; exact HT.out.step⟩
                case measure => simp [cnt]; omega
            · have d1 : decide ((f : Int) ≤ (i : Int) / 2) = false := by simp; omega
              clear hz'
              by_cases hiq : i = q
              · subst hiq
                go_wp2_with fail
                refine (dcoll_on _ _ _ _ _ H4.out.log (by have := HM80.out; omega) H4.out.room (sortOk_le (by have := HM80.out; omega))).mono ?_; rintro e w5 ⟨v, ys, rfl, hy1, hy2, hown, h5, ho5⟩
                have H5 := Lib.hid (H4.out.step h5 ho5)
                clear hy1 hy2 hown h5 ho5
                go_wp2
                go_roundw
                case rel => exact ⟨i + 1, i + 1, _, by go_num, by go_num, by omega, ⟨H5.out.log.mono (Nat.zero_le _), H5.out.old, H5.out.hB, H5.out.hb⟩, Tel.fresh _ _ _⟩
                case measure => simp [cnt]; omega
              · have hiq' : (i == q) = false := by simpa using hiq
                have hiq2 : ((i : Int) == (q : Int)) = false := by rw [beq_eq_false_iff_ne]; omega
                go_wp2
                go_roundw
                case rel => exact ⟨i + 1, f, _, rfl, by go_num, by omega, ⟨H4.out.log.mono (by omega), H4.out.old, H4.out.hB, H4.out.hb⟩, by rw [← HST.out]; exact HT.out.step⟩
                case measure => simp [cnt]; omega
          · by_cases hiq : i = q
            · subst hiq
              go_wp2_with fail
              refine (dcoll_on _ _ _ _ _ H4.out.log (by have := HM80.out; omega) H4.out.room (sortOk_le (by have := HM80.out; omega))).mono ?_; rintro e w5 ⟨v, ys, rfl, hy1, hy2, hown, h5, ho5⟩
              have H5 := Lib.hid (H4.out.step h5 ho5)
              clear hy1 hy2 hown h5 ho5
              go_wp2
              go_roundw
              case rel => exact ⟨i + 1, i + 1, _, by go_num, by go_num, by omega, ⟨H5.out.log.mono (Nat.zero_le _), H5.out.old, H5.out.hB, H5.out.hb⟩, Tel.fresh _ _ _⟩
              case measure => simp [cnt]; omega
            · have hiq' : (i == q) = false := by simpa using hiq
              have hiq2 : ((i : Int) == (q : Int)) = false := by rw [beq_eq_false_iff_ne]; omega
              go_wp2
              go_roundw
              case rel => exact ⟨i + 1, f, _, rfl, by go_num, by omega, ⟨H4.out.log.mono (by omega), H4.out.old, H4.out.hB, H4.out.hb⟩, by rw [← HST.out]; exact HT.out.step⟩
              case measure => simp [cnt]; omega
      · have HST := Lib.hid (show stp (ele ls) F P i = fun x => P x || x == ele ls i from by unfold stp; rw [if_neg (by rw [HF.out]; simp [hn])])
        have hn' : decide (i < n1) = false := by simp; omega
        have hn2 : decide ((i : Int) < (n1 : Int)) = false := by simp; omega
        by_cases hiq : i = q
        · subst hiq
          go_wp2_with fail
          refine (dcoll_on _ _ _ _ _ H3.out.log (by have := HM80.out; omega) H3.out.room (sortOk_le (by have := HM80.out; omega))).mono ?_; rintro e w5 ⟨v, ys, rfl, hy1, hy2, hown, h5, ho5⟩
          have H5 := Lib.hid (H3.out.step h5 ho5)
          clear hy1 hy2 hown h5 ho5
          go_wp2
          go_roundw
          case rel => exact ⟨i + 1, i + 1, _, by go_num, by go_num, by omega, ⟨H5.out.log.mono (Nat.zero_le _), H5.out.old, H5.out.hB, H5.out.hb⟩, Tel.fresh _ _ _⟩
          case measure => simp [cnt]; omega
        · have hiq' : (i == q) = false := by simpa using hiq
          have hiq2 : ((i : Int) == (q : Int)) = false := by rw [beq_eq_false_iff_ne]; omega
          go_wp2
          go_roundw
          case rel => exact ⟨i + 1, f, _, rfl, by go_num, by omega, ⟨H3.out.log.mono (by omega), H3.out.old, H3.out.hB, H3.out.hb⟩, by rw [← HST.out]; exact HT.out.step⟩
          case measure => simp [cnt]; omega
    · have hie : i = m := by omega
      have hlt := him
      subst hie
      go_wp2_with fail
      refine (dcoll_on _ _ _ _ _ HO.out.log (by have := HM80.out; omega) HO.out.room (sortOk_le (by have := HM80.out; omega))).mono ?_; rintro e w5 ⟨v, ys, rfl, hy1, hy2, hown, h5, ho5⟩
      have H5 := Lib.hid (HO.out.step h5 ho5)
      have HY1 := Lib.hid hy1
      have HY2 := Lib.hid hy2
      obtain ⟨A5, c5, rfl, hrd⟩ := own_slice hown
      have hX80 : ys.length ≤ 80 := by
        have h2 := sub_len (m := (List.range i).map (ele ls)) (hy1.imp (fun h => by omega)) (fun p hp => by
          obtain ⟨k, k1, k2, k3⟩ := HT.out.old p ((hy2 p).1 hp)
          exact List.mem_map.2 ⟨k, List.mem_range.2 k2, k3⟩)
        have := HM80.out
        simp at h2; omega
      obtain ⟨X, hX⟩ : ∃ X, ys.length = X := ⟨_, rfl⟩
      rw [hX] at hrd hX80 ⊢
      have HX := Lib.hid hX
      have HY := Lib.hid hrd
      have HR5 := Lib.hid ((HR.out.below H5.out.old).more H5.out.old.size)
      have HS5 := Lib.hid ((HS.out.below H5.out.old).more H5.out.old.size)
      have him80 : i ≤ 80 := HM80.out
      clear hy1 hy2 hown h5 ho5 hrd hX hlt
      go_wp2_with fail
      go_loopw [13] (BelR w5 X) (fun v _ => X - cnt v)
      case atStart => exact ⟨0, rfl, Nat.zero_le _, Below.refl _ _⟩
      case round =>
        obtain ⟨t, rfl, ht, hb⟩ := hrel
        have HB := Lib.hid hb
        clear hb
        by_cases htX : t < X
        · have htX' : decide ((t : Int) < (X : Int)) = true := by simp; omega
          go_wp2_with fail
          obtain ⟨wo, rfl⟩ : ∃ wo : World, wo = wr := ⟨_, rfl⟩
          go_loopw [14, 15] (SnR w5 (ele ls) (ele ys t) f i) (fun _ v _ => i + 1 - cnt v)
          case atStart => exact ⟨0, by omega, rfl, rfl, HB.out⟩
          case round =>
            obtain ⟨d, hd, rfl, rfl, hb2⟩ := hrel
            have HB2 := Lib.hid hb2
            clear hb2
            obtain ⟨s, hs⟩ : ∃ s, seenB (ele ls) (ele ys t) f d = s := ⟨_, rfl⟩
            rw [hs]
            have HSB := Lib.hid hs
            clear hs
            obtain ⟨j, hj⟩ : ∃ j, f + d = j := ⟨_, rfl⟩
            rw [hj] at hd ⊢
            have HJ := Lib.hid hj
            clear hj
            by_cases hji : j < i
            · have hjn : j < n0 := by have := HMN.out; omega
              have hji' : decide ((j : Int) < (i : Int)) = true := by simp; omega
              have hj80 : j < 80 := by omega
              obtain ⟨ad, rfl, hc1⟩ := reads_e (HR5.out.below HB2.out) hjn
              obtain ⟨ad5, rfl, hc2⟩ := reads_e (HY.out.below HB2.out) htX
              cases s
              · go_wp2_with fail
                go_quiet (fail)
                go_wp2
                go_roundw
                case rel => exact ⟨d + 1, by have := HJ.out; omega, by have := HJ.out; go_num, by unfold seenB; rw [HSB.out, HJ.out, Bool.false_or], below_drewN HB2.out _⟩
                case measure => simp [cnt]; omega
              · go_wp2_with fail
                go_quiet (fail)
                go_wp2
                go_roundw
                case rel => exact ⟨d + 1, by have := HJ.out; omega, by have := HJ.out; go_num, by unfold seenB; rw [HSB.out, Bool.true_or], below_drewN HB2.out _⟩
                case measure => simp [cnt]; omega
            · have hje : j = i := by omega
              subst hje
              have hpx : P (ele ys t) = true := (HY2.out _).1 (ele_mem.2 ⟨t, by rw [HX.out]; exact htX, rfl⟩)
              have hst : s = true := by
                rw [← HSB.out, seenB_iff]
                obtain ⟨k, k1, k2, k3⟩ := HT.out.old _ hpx
                exact ⟨k, k1, by rw [HJ.out]; exact k2, k3⟩
              subst hst
              have hxr : 0 ≤ ele ys t ∧ ele ys t < 18446744073709551616 := by
                obtain ⟨k, k1, k2, k3⟩ := HT.out.old _ hpx
                rw [← k3]; exact HLR.out k (by have := HMN.out; omega)
              have HDH := Lib.hid (fun W (h : DirE W (w.heap.size + 1) w.heap.size true (fun _ => false) 0) => dhas_any _ _ _ _ _ (ele ys t) W h hxr)
              obtain ⟨ad5, rfl, hc2⟩ := reads_e (HY.out.below HB2.out) htX
              clear hpx hxr
              by_cases ht0 : 0 < t
              · have ht0' : decide ((0 : Int) < (t : Int)) = true := by simp; omega
                have hc3 := reads_e2 (HY.out.below HB2.out) (show t - 1 < X by omega)
                have ht1 : 1 ≤ t := ht0
                have hlt5 : ele ys (t - 1) < ele ys t := strict_ele HY1.out (by omega) (by rw [HX.out]; exact htX)
                have hge : decide (ele ys t ≤ ele ys (t - 1)) = false := by simp; omega
                clear hlt5
                go_wp2_with fail
                go_quiet ((go_at_call 19; refine quiet_left (HDH.out _ ((H5.out.log.below HB2.out).below (below_drewN (Below.refl _ _) _)))))
                go_wp2
                go_roundw
                case rel => exact ⟨t + 1, by go_num, by omega, below_drewN HB2.out _⟩
                case measure => simp [cnt]; omega
              · have ht0' : decide ((0 : Int) < (t : Int)) = false := by simp; omega
                go_wp2_with fail
                go_quiet ((go_at_call 19; refine quiet_left (HDH.out _ ((H5.out.log.below HB2.out).below (below_drewN (Below.refl _ _) _)))))
                go_wp2
                go_roundw
                case rel => exact ⟨t + 1, by go_num, by omega, below_drewN HB2.out _⟩
                case measure => simp [cnt]; omega
        · have htX' : decide ((t : Int) < (X : Int)) = false := by simp; omega
          go_wp2_with fail
          obtain ⟨wo, rfl⟩ : ∃ wo : World, wo = wr := ⟨_, rfl⟩
          go_loopw [16] (BelF w5 f i) (fun v _ => i + 1 - cnt v)
          case atStart => exact ⟨f, rfl, Nat.le_refl _, hfi, HB.out⟩
          case round =>
            clear HB htX htX' ht
            obtain ⟨k, rfl, hfk, hki, hb⟩ := hrel
            have HB := Lib.hid hb
            clear hb
            by_cases hk : k < i
            · have hk' : decide ((k : Int) < (i : Int)) = true := by simp; omega
              have hkn : k < n0 := by have := HMN.out; omega
              go_wp2_with fail
              obtain ⟨wo2, rfl⟩ : ∃ wo2 : World, wo2 = wr := ⟨_, rfl⟩
              go_loopw [17, 18] (GnR w5 (ele ls) F k i) (fun _ v _ => i + 1 - cnt v)
              case atStart => exact ⟨0, by omega, rfl, rfl, HB.out⟩
              case round =>
                obtain ⟨d, hd, rfl, rfl, hb2⟩ := hrel
                have HB2 := Lib.hid hb2
                clear hb2
                obtain ⟨s, hs⟩ : ∃ s, gone (ele ls) F (ele ls k) k d = s := ⟨_, rfl⟩
                rw [hs]
                have HSB := Lib.hid hs
                clear hs
                obtain ⟨j, hj⟩ : ∃ j, k + d = j := ⟨_, rfl⟩
                rw [hj] at hd ⊢
                have HJ := Lib.hid hj
                clear hj
                by_cases hji : j < i
                · have hjn : j < n0 := by have := HMN.out; omega
                  have hji' : decide ((j : Int) < (i : Int)) = true := by simp; omega
                  have hj80 : j < 80 := by omega
                  obtain ⟨ad, rfl, hc1⟩ := reads_e (HR5.out.below HB2.out) hjn
                  have hc2 := reads_e2 (HR5.out.below HB2.out) hkn
                  have hc3 := reads_e2 (HR5.out.below HB2.out) (show j / 2 < n0 by omega)
                  have HG1 := Lib.hid (show gone (ele ls) F (ele ls k) k (d + 1) = ((if ele ls j = ele ls k then false else s) || (F j && ele ls (j / 2) == ele ls k)) from by
                    rw [← HJ.out, ← HSB.out]; rfl)
                  by_cases hjk : ele ls j = ele ls k
                  · have hjk' : (ele ls j == ele ls k) = true := by simpa using hjk
                    have HJK := Lib.hid hjk
                    clear hjk
                    by_cases hn : j < n1
                    · obtain ⟨ad1, rfl, hc4⟩ := reads_b (HS5.out.below HB2.out) hn
                      have hn' : decide ((j : Int) < (n1 : Int)) = true := by simp; omega
                      have HFJ := Lib.hid (show F j = bel bs j by rw [HF.out]; simp [hn])
                      cases hb : bel bs j
                      · rw [hb] at hc4
                        have HBB := Lib.hid hb
                        clear hb
                        go_wp2_with fail
                        go_quiet (fail)
                        go_wp2_with fail
                        go_quiet (fail)
                        go_wp2
                        go_roundw
                        case rel => exact ⟨d + 1, by have := HJ.out; omega, by have := HJ.out; go_num, by rw [HG1.out, if_pos HJK.out, HFJ.out, HBB.out, Bool.false_and, Bool.or_false], below_drewN HB2.out _⟩
                        case measure => simp [cnt]; omega
                      · rw [hb] at hc4
                        have HBB := Lib.hid hb
                        clear hb
                        go_wp2_with fail
                        go_quiet (fail)
                        go_wp2_with fail
                        go_quiet (fail)
                        go_wp2
                        go_roundw
                        case rel => exact ⟨d + 1, by have := HJ.out; omega, by have := HJ.out; go_num, by rw [HG1.out, if_pos HJK.out, HFJ.out, HBB.out, Bool.true_and, Bool.false_or], below_drewN HB2.out _⟩
                        case measure => simp [cnt]; omega
                    · have hn' : decide ((j : Int) < (n1 : Int)) = false := by simp; omega
                      have hn2 : decide (j < n1) = false := by simp; omega
                      have HFJ := Lib.hid (show F j = false by rw [HF.out]; simp [hn])
                      go_wp2_with fail
                      go_quiet (fail)
                      go_wp2_with fail
                      go_quiet (fail)
                      go_wp2
                      go_roundw
                      case rel => exact ⟨d + 1, by have := HJ.out; omega, by have := HJ.out; go_num, by rw [HG1.out, if_pos HJK.out, HFJ.out, Bool.false_and, Bool.or_false], below_drewN HB2.out _⟩
                      case measure => simp [cnt]; omega
                  · have hjk' : (ele ls j == ele ls k) = false := by simpa using hjk
                    have HJK := Lib.hid hjk
                    clear hjk
                    cases s
                    · by_cases hn : j < n1
                      · obtain ⟨ad1, rfl, hc4⟩ := reads_b (HS5.out.below HB2.out) hn
                        have hn' : decide ((j : Int) < (n1 : Int)) = true := by simp; omega
                        have HFJ := Lib.hid (show F j = bel bs j by rw [HF.out]; simp [hn])
                        cases hb : bel bs j
                        · rw [hb] at hc4
                          have HBB := Lib.hid hb
                          clear hb
                          go_wp2_with fail
                          go_quiet (fail)
                          go_wp2_with fail
                          go_quiet (fail)
                          go_wp2
                          go_roundw
                          case rel => exact ⟨d + 1, by have := HJ.out; omega, by have := HJ.out; go_num, by rw [HG1.out, if_neg HJK.out, HFJ.out, HBB.out, Bool.false_and, Bool.or_false], below_drewN HB2.out _⟩
                          case measure => simp [cnt]; omega
                        · rw [hb] at hc4
                          have HBB := Lib.hid hb
                          clear hb
                          go_wp2_with fail
                          go_quiet (fail)
                          go_wp2_with fail
                          go_quiet (fail)
                          go_wp2
                          go_roundw
                          case rel => exact ⟨d + 1, by have := HJ.out; omega, by have := HJ.out; go_num, by rw [HG1.out, if_neg HJK.out, HFJ.out, HBB.out, Bool.true_and, Bool.false_or], below_drewN HB2.out _⟩
                          case measure => simp [cnt]; omega
                      · have hn' : decide ((j : Int) < (n1 : Int)) = false := by simp; omega
                        have hn2 : decide (j < n1) = false := by simp; omega
                        have HFJ := Lib.hid (show F j = false by rw [HF.out]; simp [hn])
                        go_wp2_with fail
                        go_quiet (fail)
                        go_wp2_with fail
                        go_quiet (fail)
                        go_wp2
                        go_roundw
                        case rel => exact ⟨d + 1, by have := HJ.out; omega, by have := HJ.out; go_num, by rw [HG1.out, if_neg HJK.out, HFJ.out, Bool.false_and, Bool.or_false], below_drewN HB2.out _⟩
                        case measure => simp [cnt]; omega
                    · go_wp2_with fail
                      go_quiet (fail)
                      go_wp2_with fail
                      go_quiet (fail)
                      go_wp2
                      go_roundw
                      case rel => exact ⟨d + 1, by have := HJ.out; omega, by have := HJ.out; go_num, by rw [HG1.out, if_neg HJK.out, Bool.true_or], below_drewN HB2.out _⟩
                      case measure => simp [cnt]; omega
                · have hje : j = i := by omega
                  subst hje
                  have hnow : P (ele ls k) = !s := by
                    have := HT.out.now k hfk hk
                    rw [show j - k = d by have := HJ.out; omega, HSB.out] at this
                    exact this
                  have HNOW := Lib.hid hnow
                  clear hnow hd
                  have hji' : decide ((j : Int) < (j : Int)) = false := by simp
                  go_wp2_with fail
                  obtain ⟨wo3, rfl⟩ : ∃ wo3 : World, wo3 = wr := ⟨_, rfl⟩
                  go_loopw [19, 20] (SnR w5 (ele ys) (ele ls k) 0 X) (fun _ v _ => X + 1 - cnt v)
                  case atStart => exact ⟨0, by omega, rfl, rfl, HB2.out⟩
                  case round =>
                    obtain ⟨d3, hd3, rfl, rfl, hb3⟩ := hrel
                    have HB3 := Lib.hid hb3
                    clear hb3
                    obtain ⟨s3, hs3⟩ : ∃ s, seenB (ele ys) (ele ls k) 0 d3 = s := ⟨_, rfl⟩
                    rw [hs3]
                    have HSB3 := Lib.hid hs3
                    clear hs3
                    rw [Nat.zero_add] at hd3 ⊢
                    by_cases hd3X : d3 < X
                    · have hd3' : decide ((d3 : Int) < (X : Int)) = true := by simp; omega
                      obtain ⟨ad, rfl, hc1⟩ := reads_e (HR5.out.below HB3.out) hkn
                      obtain ⟨ad5, rfl, hc2⟩ := reads_e (HY.out.below HB3.out) hd3X
                      cases s3
                      · go_wp2_with fail
                        go_quiet (fail)
                        go_wp2
                        go_roundw
                        case rel => exact ⟨d3 + 1, by omega, by rw [Nat.zero_add]; go_num, by unfold seenB; rw [HSB3.out, Bool.false_or, Nat.zero_add], below_drewN HB3.out _⟩
                        case measure => simp [cnt]; omega
                      · go_wp2_with fail
                        go_quiet (fail)
                        go_wp2
                        go_roundw
                        case rel => exact ⟨d3 + 1, by omega, by rw [Nat.zero_add]; go_num, by unfold seenB; rw [HSB3.out, Bool.true_or], below_drewN HB3.out _⟩
                        case measure => simp [cnt]; omega
                    · have hde : d3 = X := by omega
                      subst hde
                      have hs3 : s3 = !s := by
                        rw [← HNOW.out, ← HSB3.out, Bool.eq_iff_iff, seenB_iff, ← HY2.out, ele_mem]
                        constructor
                        · rintro ⟨q, _, q2, q3⟩; exact ⟨q, by rw [HX.out]; omega, q3⟩
                        · rintro ⟨q, q2, q3⟩; exact ⟨q, by omega, by rw [HX.out] at q2; omega, q3⟩
                      subst hs3
                      have hd3' : decide ((d3 : Int) < (d3 : Int)) = false := by simp
                      cases s
                      · go_wp2
                        go_roundw
                        case rel => exact ⟨k + 1, by go_num, by omega, by omega, HB3.out⟩
                        case measure => simp [cnt]; omega
                      · go_wp2
                        go_roundw
                        case rel => exact ⟨k + 1, by go_num, by omega, by omega, HB3.out⟩
                        case measure => simp [cnt]; omega
            · have hk' : decide ((k : Int) < (i : Int)) = false := by simp; omega
              go_wp2_with fail
              refine (told_any _).mono ?_; rintro e w6 ⟨rfl, hb6⟩
              go_wp2
              go_ret
              exact ⟨rfl, H5.out.old.trans ((HB.out.trans (hb6.mono HB.out.size)).mono H5.out.old.size)⟩
end Go.Proofs.Ythnefhkacgkacaa
