/- What Coldest of package heat tells: the first place of the rank that is not left out. -/
import Derived.Test.YtghniddefhdmmaaHtf
import Derived.Test.YtghniddefhdmmaaCut
import Derived.WalkMore
import Derived.ScopeJumps
namespace Go.Proofs.Ytghniddefhdmmaa
open Go.RowKit Flo

def bel (bs : List Bool) (k : Nat) : Bool := bs.getD k false
/-- The first that is not left out. -/
def coldV (bs : List Bool) : List Int → Int
  | [] => -1
  | x :: r => if bel bs x.toNat then coldV bs r else x

theorem reads_b {w : World} {B n : Nat} {A : Option Addr} {xs : List Bool} (h : Reads w B 1 A n (xs.map Value.bool)) {k : Nat} (hk : k < n) : ∃ ad, A = some ad ∧ w.cell? (ad.add k) = some (.bool (bel xs k)) := by
  obtain ⟨ad, u, e, _, hx, hc⟩ := h.at_ hk
  refine ⟨ad, e, ?_⟩
  rw [List.getElem?_map] at hx
  rw [hc]
  unfold bel
  rw [List.getD_eq_getElem?_getD]
  cases hx' : xs[k]? with
  | none => rw [hx'] at hx; cases hx
  | some x => rw [hx'] at hx; cases hx; rfl

def lenS : Value → Nat | .slice _ m _ => m | _ => 0

/-- What holds at the label. -/
def JC (w : World) (A A1 : Option Addr) (n c n1 c1 : Nat) (hs : List (Int × Int)) (bs : List Bool) (a' : Act) (w' : World) : Prop :=
  ∃ (d : List Int) (A5 : Option Addr) (m cc : Nat) (r : List Int) (u6 u8 u9 u10 u11 u12 u13 u14 u15 u16 u17 u18 u19 u20 u21 u22 u23 u24 u25 u26 u27 u28 u29 : Value), a' = { tmps := #[.slice A n c, .slice A1 n1 c1, undef, undef, .int .i64 0, .slice A5 m cc, u6, .slice A n c, u8, u9, u10, u11, u12, u13, u14, u15, u16, u17, u18, u19, u20, u21, u22, u23, u24, u25, u26, u27, u28, u29], defers := [] } ∧ Reads w' w'.heap.size 1 A5 m (r.map (Value.int .i64)) ∧ (∀ x ∈ r, 0 ≤ x ∧ x < n) ∧ coldV bs r = coldV bs d ∧ m ≤ cc ∧ d.Perm ((List.range n).map Int.ofNat) ∧ Srtd (d.map (lex hs)) 0 n ∧ Below w.heap.size w w'

def ColdIs (w : World) (n : Nat) (hs : List (Int × Int)) (bs : List Bool) (e : Ending) (w' : World) : Prop := ∃ d : List Int, e = .returned (.int .i64 (coldV bs d)) ∧ d.Perm ((List.range n).map Int.ofNat) ∧ Srtd (d.map (lex hs)) 0 n ∧ Below w.heap.size w w'

set_option maxRecDepth 100000 in
set_option maxHeartbeats 8000000 in
theorem cold_any (A A1 : Option Addr) (n c B n1 c1 B1 : Nat) (hs : List (Int × Int)) (bs : List Bool) (w : World) (hrd : Reads w B 1 A n (hs.map hv)) (hrg : ∀ x ∈ hs, Rgt x) (hn : n ≤ 1000) (hB : B ≤ w.heap.size) (hso : StableOk n)
    (hnb : Reads w B1 1 A1 n1 (bs.map Value.bool)) (hB1 : B1 ≤ w.heap.size) :
    Calls Try.prog 15 #[.slice A n c, .slice A1 n1 c1] w (ColdIs w n hs bs) := by
  obtain ⟨i0, hi0, hz0, hz1, hz2⟩ := info_parts infoI
  have CR := Lib.hid (rank_any A n c B hs w hrd hrg hn hB hso)
  have HNB0 := Lib.hid hnb
  clear hrd hrg hso hnb
  go_enter Try.func15, Try.ntmps15
  go_wp2_with fail
  refine wp_scope_jumps 0 (JC w A A1 n c n1 c1 hs bs) (fun a' _ => lenS (a'.tmps.getD 5 undef)) rfl ?_ ?_
  · go_wp2_with fail
    refine CR.out.mono ?_
    rintro e w2 ⟨g, d, rfl, hown, hp, hs', hb⟩
    have HP := Lib.hid hp
    have HS := Lib.hid hs'
    have HB := Lib.hid hb
    have HIN := Lib.hid (show ∀ x ∈ d, 0 ≤ x ∧ x < (n : Int) from fun x hx => by
      obtain ⟨k, hk, rfl⟩ := List.mem_map.1 (hp.mem_iff.1 hx)
      have := List.mem_range.1 hk
      constructor
      · exact Int.natCast_nonneg k
      · show (k : Int) < n; omega)
    obtain ⟨r, hr⟩ : ∃ r, d = r := ⟨_, rfl⟩
    obtain ⟨A5, hA5⟩ : ∃ A5, (some ⟨g, 0, none⟩ : Option Addr) = A5 := ⟨_, rfl⟩
    have HRD5 := Lib.hid (show Reads w2 w2.heap.size 1 A5 n (r.map (Value.int .i64)) by rw [← hr, ← hA5]; exact Reads.of_own hown)
    have HIN := Lib.hid (show ∀ x ∈ r, 0 ≤ x ∧ x < (n : Int) by rw [← hr]; exact HIN.out)
    have HCV := Lib.hid (show coldV bs r = coldV bs d by rw [hr])
    have HCC := Lib.hid (Nat.le_refl n)
    have HNB := Lib.hid (HNB0.out.below (hb.mono hB1))
    rw [hA5]
    clear hp hs' hb hown hr hA5
    go_wp2_with fail
    go_step3
    rcases r with _ | ⟨x, r⟩
    · have hm0 : n = 0 := by have := HRD5.out.1; simpa using this.symm
      subst hm0
      go_wp2
      simp only [Exit.jump]
      go_ret
      exact ⟨d, ret_i (by rw [← HCV.out]; rfl), HP.out, HS.out, HB.out⟩
    · have hm1 : n = r.length + 1 := by have := HRD5.out.1; simpa using this.symm
      obtain ⟨ad, u, rfl, _, hu, hc⟩ := HRD5.out.at_ (show 0 < n by omega)
      obtain rfl : Value.int .i64 x = u := by simpa using hu
      obtain ⟨hx0, hxn⟩ := HIN.out x (List.mem_cons_self ..)
      obtain ⟨y, rfl⟩ := Int.eq_ofNat_of_zero_le hx0
      have hc' : w2.cell? ad = some (.int .i64 (y : Int)) := by rw [show ad.add 0 = ad by simp [Addr.add]] at hc; exact hc
      have hcv : coldV bs ((y : Int) :: r) = if bel bs y then coldV bs r else (y : Int) := by show (if bel bs ((y : Int)).toNat then _ else _) = _; rw [Int.toNat_natCast]
      have HX := Lib.hid hcv
      have hm0 : ((n : Int) == 0) = false := by rw [beq_eq_false_iff_ne]; omega
      have hmp : 0 < n := by omega
      have HM1 := Lib.hid hm1
      clear hu hc hx0 hcv hm1
      by_cases hy : y < n1
      · have hy' : decide ((y : Int) < (n1 : Int)) = true := by simp; omega
        obtain ⟨ad1, rfl, hb⟩ := reads_b HNB.out hy
        cases hbb : bel bs y
        · rw [hbb] at hb
          have HV := Lib.hid (show coldV bs ((y : Int) :: r) = y by rw [HX.out, hbb]; rfl)
          clear hbb
          go_wp2
          simp only [Exit.jump]
          go_ret
          exact ⟨d, ret_i (by rw [← HCV.out]; exact HV.out.symm), HP.out, HS.out, HB.out⟩
        · rw [hbb] at hb
          have HV := Lib.hid (show coldV bs ((y : Int) :: r) = coldV bs r by rw [HX.out, hbb]; rfl)
          obtain ⟨A9, hA9⟩ : ∃ A9, (if n = 1 then some ad else (some ad).map (·.add (1 * 1))) = A9 := ⟨_, rfl⟩
          have hs2 : ∀ w' : World, (Instr.slice 31 (.slice (some ad) n n) (some (.int .i64 1)) none none).run Try.prog w' = .ok (.slice A9 (n - 1) (n - 1)) w' := fun w' => by rw [← hA9]; exact run_cut_hi w' Try.underlying31 hi0 1 hz1 (some ad) n n 1 hmp
          have HRD9 := Lib.hid (show Reads w2 w2.heap.size 1 A9 (n - 1) (r.map (Value.int .i64)) from by
            rw [← hA9]
            have := HRD5.out.cut (k := 1) (cap := n) hmp HCC.out
            simpa using this)
          clear hbb hA9
          go_wp2
          go_step3
          exact ⟨rfl, d, A9, n - 1, n - 1, r, _, _, _, _, _, _, _, _, _, _, _, _, _, _, _, _, _, _, _, _, _, _, _, rfl, HRD9.out, fun z hz => HIN.out z (List.mem_cons_of_mem _ hz), HV.out.symm.trans HCV.out, by omega, HP.out, HS.out, HB.out⟩
      · have hy' : decide ((y : Int) < (n1 : Int)) = false := by simp; omega
        have hy2 : decide (y < n1) = false := by simp; omega
        have HV := Lib.hid (show coldV bs ((y : Int) :: r) = y by
          rw [HX.out, show bel bs y = false by unfold bel; rw [List.getD_eq_getElem?_getD, List.getElem?_eq_none (by have := HNB.out.1; simp at this; omega)]; rfl]; rfl)
        go_wp2
        simp only [Exit.jump]
        go_ret
        exact ⟨d, ret_i (by rw [← HCV.out]; exact HV.out.symm), HP.out, HS.out, HB.out⟩
  · rintro a' w2 ⟨d, A5, m, cc, r, u6, u8, u9, u10, u11, u12, u13, u14, u15, u16, u17, u18, u19, u20, u21, u22, u23, u24, u25, u26, u27, u28, u29, rfl, hrd5, hin, hcv, hcc, hp, hs', hb⟩
    have HP := Lib.hid hp
    have HS := Lib.hid hs'
    have HB := Lib.hid hb
    have HRD5 := Lib.hid hrd5
    have HIN := Lib.hid hin
    have HCV := Lib.hid hcv
    have HCC := Lib.hid hcc
    have HNB := Lib.hid (HNB0.out.below (hb.mono hB1))
    clear hp hs' hb hrd5 hin hcv hcc
    rcases r with _ | ⟨x, r⟩
    · have hm0 : m = 0 := by have := HRD5.out.1; simpa using this.symm
      subst hm0
      go_wp2
      simp only [Exit.jump]
      go_ret
      exact ⟨d, ret_i (by rw [← HCV.out]; rfl), HP.out, HS.out, HB.out⟩
    · have hm1 : m = r.length + 1 := by have := HRD5.out.1; simpa using this.symm
      obtain ⟨ad, u, rfl, _, hu, hc⟩ := HRD5.out.at_ (show 0 < m by omega)
      obtain rfl : Value.int .i64 x = u := by simpa using hu
      obtain ⟨hx0, hxn⟩ := HIN.out x (List.mem_cons_self ..)
      obtain ⟨y, rfl⟩ := Int.eq_ofNat_of_zero_le hx0
      have hc' : w2.cell? ad = some (.int .i64 (y : Int)) := by rw [show ad.add 0 = ad by simp [Addr.add]] at hc; exact hc
      have hcv : coldV bs ((y : Int) :: r) = if bel bs y then coldV bs r else (y : Int) := by show (if bel bs ((y : Int)).toNat then _ else _) = _; rw [Int.toNat_natCast]
      have HX := Lib.hid hcv
      have hm0 : ((m : Int) == 0) = false := by rw [beq_eq_false_iff_ne]; omega
      have hmp : 0 < m := by omega
      have HM1 := Lib.hid hm1
      clear hu hc hx0 hcv hm1
      by_cases hy : y < n1
      · have hy' : decide ((y : Int) < (n1 : Int)) = true := by simp; omega
        obtain ⟨ad1, rfl, hb⟩ := reads_b HNB.out hy
        cases hbb : bel bs y
        · rw [hbb] at hb
          have HV := Lib.hid (show coldV bs ((y : Int) :: r) = y by rw [HX.out, hbb]; rfl)
          clear hbb
          go_wp2
          simp only [Exit.jump]
          go_ret
          exact ⟨d, ret_i (by rw [← HCV.out]; exact HV.out.symm), HP.out, HS.out, HB.out⟩
        · rw [hbb] at hb
          have HV := Lib.hid (show coldV bs ((y : Int) :: r) = coldV bs r by rw [HX.out, hbb]; rfl)
          obtain ⟨A9, hA9⟩ : ∃ A9, (if cc = 1 then some ad else (some ad).map (·.add (1 * 1))) = A9 := ⟨_, rfl⟩
          have hs2 : ∀ w' : World, (Instr.slice 31 (.slice (some ad) m cc) (some (.int .i64 1)) none none).run Try.prog w' = .ok (.slice A9 (m - 1) (cc - 1)) w' := fun w' => by rw [← hA9]; exact run_cut_hi w' Try.underlying31 hi0 1 hz1 (some ad) m cc 1 hmp
          have HRD9 := Lib.hid (show Reads w2 w2.heap.size 1 A9 (m - 1) (r.map (Value.int .i64)) from by
            rw [← hA9]
            have := HRD5.out.cut (k := 1) (cap := cc) hmp HCC.out
            simpa using this)
          clear hbb hA9
          go_wp2
          go_step3
          exact ⟨rfl, ⟨d, A9, m - 1, cc - 1, r, _, _, _, _, _, _, _, _, _, _, _, _, _, _, _, _, _, _, _, _, _, _, _, rfl, HRD9.out, fun z hz => HIN.out z (List.mem_cons_of_mem _ hz), HV.out.symm.trans HCV.out, by have := HCC.out; omega, HP.out, HS.out, HB.out⟩, by simp [lenS]; omega⟩
      · have hy' : decide ((y : Int) < (n1 : Int)) = false := by simp; omega
        have hy2 : decide (y < n1) = false := by simp; omega
        have HV := Lib.hid (show coldV bs ((y : Int) :: r) = y by
          rw [HX.out, show bel bs y = false by unfold bel; rw [List.getD_eq_getElem?_getD, List.getElem?_eq_none (by have := HNB.out.1; simp at this; omega)]; rfl]; rfl)
        go_wp2
        simp only [Exit.jump]
        go_ret
        exact ⟨d, ret_i (by rw [← HCV.out]; exact HV.out.symm), HP.out, HS.out, HB.out⟩
end Go.Proofs.Ytghniddefhdmmaa
