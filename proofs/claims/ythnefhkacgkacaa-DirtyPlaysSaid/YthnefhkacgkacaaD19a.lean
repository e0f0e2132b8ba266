/- DirtyOff's walk. -/
import Derived.Test.YthnefhkacgkacaaDto
namespace Go.Proofs.Ythnefhkacgkacaa
open Go.RowKit Mf

theorem words_of {xs : List Value} (h : ∀ u ∈ xs, ∃ i, u = .int .u64 i ∧ (Lit.int .u64 i).wf = true) : ∃ ls : List Int, xs = ls.map (Value.int .u64) ∧ ∀ p ∈ ls, 0 ≤ p ∧ p < 18446744073709551616 := by
  induction xs with
  | nil => exact ⟨[], rfl, fun p hp => by cases hp⟩
  | cons x xs ih =>
    obtain ⟨ls, rfl, h2⟩ := ih fun u hu => h u (List.mem_cons_of_mem _ hu)
    obtain ⟨i, rfl, hw⟩ := h _ (List.mem_cons_self ..)
    refine ⟨i :: ls, rfl, fun p hp => ?_⟩
    rcases List.mem_cons.1 hp with rfl | hp
    · simp only [Lit.wf, IntKind.min, IntKind.max, Bool.and_eq_true] at hw
      have h1 := hw.1
      have h2 := hw.2
      simp [IntKind.bits, IntKind.signed] at h1 h2
      omega
    · exact h2 p hp

/-- The log is off, or on: and no old block has turned. -/
structure OffS (w : World) (b B : Nat) (on : Bool) (P : Int → Bool) (N : Nat) (wr : World) : Prop where
  log : DirE wr b B on P N
  old : Below w.heap.size w wr
  hB : B = w.heap.size
  hb : B ≤ b

theorem OffS.step {w wr w' : World} {b B : Nat} {on on' : Bool} {P P' : Int → Bool} {N N' : Nat} (h : OffS w b B on P N wr) (h' : DirE w' b B on' P' N') (ho : Only (DS wr b B) wr w') : OffS w b B on' P' N' w' :=
  ⟨h', ds_below (by have := h.old; have e := h.hB; subst e; exact this) ho h.hb (by have := h.old.size; have := h.hB; omega) |> fun x => by have e := h.hB; subst e; exact x, h.hB, h.hb⟩
theorem OffS.quiet {w wr w' : World} {b B : Nat} {on : Bool} {P : Int → Bool} {N : Nat} (h : OffS w b B on P N wr) (hb : Below wr.heap.size wr w') : OffS w b B on P N w' :=
  ⟨h.log.below hb, h.old.trans (hb.mono h.old.size), h.hB, h.hb⟩
theorem OffS.room {w wr : World} {b B : Nat} {on : Bool} {P : Int → Bool} {N : Nat} (h : OffS w b B on P N wr) : B ≤ wr.heap.size := by have := h.old.size; have := h.hB; omega

def R1 (w : World) (b B : Nat) (v : Value) (wr : World) : Prop := ∃ k : Nat, v = .int .i64 k ∧ k ≤ 2 ∧ OffS w b B false (fun _ => false) 0 wr
def R2 (w : World) (b B m : Nat) (v : Value) (wr : World) : Prop := ∃ k : Nat, v = .int .i64 k ∧ k ≤ m ∧ OffS w b B false (fun _ => false) k wr
def R3 (w : World) (b B m : Nat) (v : Value) (wr : World) : Prop := ∃ (k : Nat) (P : Int → Bool), v = .int .i64 k ∧ k ≤ m ∧ OffS w b B true P (2 * k) wr

set_option maxRecDepth 100000 in
set_option maxHeartbeats 4000000 in
theorem dirtyOff_walk (A : Option Addr) (n c : Nat) (xs : List Value) (w : World) (hr : Reads w w.heap.size 1 A n xs) (hx : ∀ u ∈ xs, ∃ i, u = .int .u64 i ∧ (Lit.int .u64 i).wf = true) :
    Calls Try.prog 5 #[.slice A n c] w fun e w' => e = .returned (.bool true) ∧ Below w.heap.size w w' := by
  obtain ⟨ls, rfl, hl⟩ := words_of hx
  have HL := Lib.hid hl
  have HR := Lib.hid hr
  clear hx hl hr
  go_enter Try.func5, Try.ntmps5
  go_wp2_with fail
  refine (dnew_any _).mono ?_; rintro e w1 ⟨rfl, h1, hb1⟩
  have H1 := Lib.hid (show OffS w (w.heap.size + 1) w.heap.size false (fun _ => false) 0 w1 from ⟨h1, hb1, rfl, Nat.le_succ _⟩)
  clear h1 hb1
  go_wp2_with fail
  obtain ⟨m, hm, hmn, hm40⟩ : ∃ m : Nat, min (n : Int) 40 = m ∧ m ≤ n ∧ m ≤ 40 := ⟨min n 40, by omega, by omega, by omega⟩
  rw [hm]
  have HL40 := Lib.hid hm40
  clear hm hm40
  go_loopw [5] (R1 w (w.heap.size + 1) w.heap.size) (fun v _ => 2 - cnt v)
  case atStart => exact ⟨0, rfl, by omega, H1.out⟩
  case round =>
    obtain ⟨k, rfl, hk, ho⟩ := hrel
    have HO := Lib.hid ho
    clear ho
    by_cases hk2 : k < 2
    · have hk2' : decide ((k : Int) < 2) = true := by simp; omega
      go_wp2_with fail
      obtain ⟨wo, rfl⟩ : ∃ wo : World, wo = wr := ⟨_, rfl⟩
      go_loopw [6] (R2 w (w.heap.size + 1) w.heap.size m) (fun v _ => m - cnt v)
      case atStart => exact ⟨0, rfl, Nat.zero_le _, HO.out⟩
      case round =>
        obtain ⟨t, rfl, ht, ho2⟩ := hrel
        have H2 := Lib.hid ho2
        clear ho2
        by_cases htm : t < m
        · have ht40 : t < 40 := by have := HL40.out; omega
          obtain ⟨ad, x, rfl, had, hx, hc⟩ := reads_u (HR.out.below H2.out.old) (show t < n by omega)
          have hxr := HL.out x (List.mem_of_getElem? hx)
          clear had hx
          go_wp2_with fail
          refine (dnote_off _ _ _ _ x _ H2.out.log).mono ?_; rintro e w2 ⟨rfl, rfl⟩
          go_wp2_with fail
          refine (dhas_any _ _ _ _ _ x _ H2.out.log hxr).mono ?_; rintro e w2 ⟨rfl, rfl⟩
          go_wp2_with fail
          refine (dforget_any _ _ _ _ _ x _ H2.out.log hxr (by have := HL40.out; unfold maxLen; omega)).mono ?_; rintro e w2 ⟨rfl, h2, ho2⟩
          have H3 := Lib.hid (H2.out.step h2 ho2)
          clear h2 ho2
          go_wp2
          go_roundw
          case rel => exact ⟨t + 1, by go_num, by omega, by have := H3.out; simpa using this⟩
          case measure => simp [cnt]; omega
        · go_wp2_with fail
          refine (dcoll_off _ _ _ _ _ H2.out.log).mono ?_; rintro e w2 ⟨rfl, rfl⟩
          go_wp2_with fail
          refine (dstop_off _ _ _ _ _ H2.out.log).mono ?_; rintro e w2 ⟨rfl, rfl⟩
          go_wp2_with fail
          refine (don_any _ _ _ _ _ _ H2.out.log).mono ?_; rintro e w2 ⟨rfl, rfl⟩
          go_wp2_with fail
          refine (dstart_off _ _ _ _ _ H2.out.log H2.out.room).mono ?_; rintro e w2 ⟨rfl, h2, ho2⟩
          have H3 := Lib.hid (H2.out.step h2 ho2)
          clear h2 ho2
          go_wp2_with fail
          refine (don_any _ _ _ _ _ _ H3.out.log).mono ?_; rintro e w3 ⟨rfl, rfl⟩
          go_wp2_with fail
          go_loopw [9] (R3 w (w.heap.size + 1) w.heap.size m) (fun v _ => m - cnt v)
          case atStart => exact ⟨0, _, rfl, Nat.zero_le _, H3.out⟩
          case round =>
            obtain ⟨q, P, rfl, hq, ho4⟩ := hrel
            have H4 := Lib.hid ho4
            clear ho4
            by_cases hqm : q < m
            · have hq40 : q < 40 := by have := HL40.out; omega
              obtain ⟨ad, x, rfl, had, hx, hc⟩ := reads_u (HR.out.below H4.out.old) (show q < n by omega)
              have hxr := HL.out x (List.mem_of_getElem? hx)
              have HC := Lib.hid (HR.out)
              clear had
              go_wp2_with fail
              refine (dnote_on _ _ _ _ x _ H4.out.log hxr (by have := HL40.out; unfold maxLen; omega)).mono ?_; rintro e w5 ⟨rfl, h5, ho5⟩
              have H5 := Lib.hid (H4.out.step h5 ho5)
              clear h5 ho5
              have hc5 : w5.cell? (ad.add q) = some (.int .u64 x) := by
                obtain ⟨ad', y, e', _, hy, hc'⟩ := reads_u (HR.out.below H5.out.old) (show q < n by omega)
                cases e'
                rw [hx] at hy
                cases hy
                exact hc'
              go_wp2_with fail
              refine (dhas_any _ _ _ _ _ x _ H5.out.log hxr).mono ?_; rintro e w6 ⟨rfl, rfl⟩
              rw [show (P x || x == x) = true by simp]
              go_wp2_with fail
              refine (dnote_on _ _ _ _ x _ H5.out.log hxr (by have := HL40.out; unfold maxLen; omega)).mono ?_; rintro e w6 ⟨rfl, h6, ho6⟩
              rw [show (!(P x || x == x)) = false by simp]
              have H6 := Lib.hid (H5.out.step h6 ho6)
              clear h6 ho6
              go_wp2
              go_roundw
              case rel => exact ⟨q + 1, _, by go_num, by omega, by have := H6.out; rw [show 2 * q + 1 + 1 = 2 * (q + 1) by omega] at this; exact this⟩
              case measure => simp [cnt]; omega
            · go_wp2_with fail
              refine (dstop_on _ _ _ _ _ H4.out.log H4.out.room).mono ?_; rintro e w5 ⟨rfl, h5, ho5⟩
              have H5 := Lib.hid (H4.out.step h5 ho5)
              clear h5 ho5
              go_wp2
              go_roundw
              case rel => exact ⟨k + 1, by go_num, by omega, H5.out⟩
              case measure => simp [cnt]; omega
    · go_wp2_with fail
      refine (dstart_off _ _ _ _ _ HO.out.log HO.out.room).mono ?_; rintro e w2 ⟨rfl, h2, ho2⟩
      have H3 := Lib.hid (HO.out.step h2 ho2)
      clear h2 ho2
      go_wp2_with fail
      refine (dcoll_on _ _ _ _ _ H3.out.log (by decide) H3.out.room sortOk0).mono ?_; rintro e w4 ⟨v, ys, rfl, hx1, hx2, hown, h4, ho4⟩
      have hys : ys = [] := coll_is hx1 hx2 .nil (fun p => by simp)
      subst hys
      obtain ⟨A', c', rfl⟩ := slice_nil hown
      have H4 := Lib.hid (H3.out.step h4 ho4)
      clear hx1 hx2 hown h4 ho4
      go_wp2_with fail
      refine (told_any _).mono ?_; rintro e w5 ⟨rfl, hb5⟩
      have H5 := Lib.hid (H4.out.quiet hb5)
      clear hb5
      go_wp2_with fail
      refine (words_any _ _ _ _ _ _ 0 0 [] [] _ ⟨rfl, fun h => absurd h (by omega)⟩ Reads.none_ (by decide)).mono ?_; rintro e w6 ⟨rfl, hb6⟩
      have H6 := Lib.hid (H5.out.quiet hb6)
      clear hb6
      go_wp2
      go_ret
      exact ⟨rfl, H6.out.old⟩
end Go.Proofs.Ythnefhkacgkacaa
