/- Package buddy: Has. -/
import Derived.Test.YtmmjkebhcihjlaaBuc
import Derived.Test.YtmmjkebhcihjlaaBit
namespace Go.Proofs.Ytmmjkebhcihjlaa
open Go.RowKit

/-- The rows are the greatest runs of a set. -/
structure BInv (S : Nat → Bool) (R : Nat → List Int) : Prop where
  srt : ∀ o, o < 10 → (R o).Pairwise (· < ·)
  mem : ∀ o, o < 10 → ∀ x, x ∈ R o ↔ ∃ f : Nat, x = f ∧ Bud.Mx S f o
  len : ∀ o, o < 10 → (R o).length ≤ 3000000

def hasF (S : Nat → Bool) (x : Int) : Bool := decide (0 ≤ x) && S x.toNat
/-- The set lies between two frames. -/
structure Rng (S : Nat → Bool) (fi en : Int) : Prop where
  lo : 0 ≤ fi
  hi : en ≤ 2097152
  all : ∀ k, S k = true → fi ≤ (k : Int) ∧ (k : Int) < en

def HasR (w : World) (S : Nat → Bool) (k : Nat) (v27 : Value) (wr : World) : Prop := ∃ o : Nat, v27 = .int .i64 o ∧ o ≤ 10 ∧ (∀ p, p < o → ¬ Bud.Mx S (k / 2 ^ p * 2 ^ p) p) ∧ ∃ q, wr = w.drewN q
def cntI : Value → Nat | .int _ q => q.toNat | _ => 0

theorem run_index10 (vs : Nat → Value) {o : Nat} (ho : o < 10) (W : World) : (Instr.index 52 (.agg #[vs 0, vs 1, vs 2, vs 3, vs 4, vs 5, vs 6, vs 7, vs 8, vs 9]) (.int .i64 (o : Int))).run Try.prog W = .ok (vs o) W := by
  have u := run_underlying Try.underlying52
  have z := Try.sizeOf47
  have a := Try.isAgg47
  rcases lt10 ho with rfl | rfl | rfl | rfl | rfl | rfl | rfl | rfl | rfl | rfl <;>
    simp [Instr.index, part, asIntOf, u, z, a]

set_option maxRecDepth 100000 in
set_option maxHeartbeats 4000000 in
theorem bhas_any (c base : Nat) (fi en fr x : Int) (vs : Nat → Value) (R : Nat → List Int) (S : Nat → Bool) (w : World) (h : BudAt w c base fi en fr vs R) (hI : BInv S R) (hr : Rng S fi en) :
    Calls Try.prog 17 #[.pointer (some ⟨c, 0, none⟩), .int .i64 x] w fun e w' => e = .returned (.bool (hasF S x)) ∧ ∃ q, w' = w.drewN q := by
  have HB := Lib.hid h
  have HI := Lib.hid hI
  have d0 : w.cell? ⟨c, 0, none⟩ = some (.int .i64 fi) := h.blk.cell 0
  have d1 : w.cell? ⟨c, 1, none⟩ = some (.int .i64 en) := h.blk.cell 1
  by_cases hx : fi ≤ x ∧ x < en
  · obtain ⟨hx1, hx2⟩ := hx
    have g1 : decide (x < fi) = false := by simp; omega
    have g2 : decide (en ≤ x) = false := by simp; omega
    have hlo := hr.lo
    have hhi := hr.hi
    obtain ⟨k, rfl⟩ : ∃ k : Nat, x = k := ⟨x.toNat, by omega⟩
    have e0 : hasF S (k : Int) = S k := by unfold hasF; rw [Int.toNat_natCast]; simp
    rw [e0]
    have c2 : w.cell? ⟨c, 2, none⟩ = some (vs 0) := h.blk.cell 2
    have c3 : w.cell? ⟨c, 3, none⟩ = some (vs 1) := h.blk.cell 3
    have c4 : w.cell? ⟨c, 4, none⟩ = some (vs 2) := h.blk.cell 4
    have c5 : w.cell? ⟨c, 5, none⟩ = some (vs 3) := h.blk.cell 5
    have c6 : w.cell? ⟨c, 6, none⟩ = some (vs 4) := h.blk.cell 6
    have c7 : w.cell? ⟨c, 7, none⟩ = some (vs 5) := h.blk.cell 7
    have c8 : w.cell? ⟨c, 8, none⟩ = some (vs 6) := h.blk.cell 8
    have c9 : w.cell? ⟨c, 9, none⟩ = some (vs 7) := h.blk.cell 9
    have c10 : w.cell? ⟨c, 10, none⟩ = some (vs 8) := h.blk.cell 10
    have c11 : w.cell? ⟨c, 11, none⟩ = some (vs 9) := h.blk.cell 11
    clear h hI hr e0
    go_enter Try.func17, Try.ntmps17
    go_wp2_with fail
    clear c2 c3 c4 c5 c6 c7 c8 c9 c10 c11 d0 d1
    obtain ⟨wo, rfl⟩ : ∃ wo : World, wo = w := ⟨_, rfl⟩
    go_loopw [27] (HasR wo S k) (fun v _ => 10 - cntI v)
    case atStart => exact ⟨0, rfl, by omega, fun p hp => by omega, 0, rfl⟩
    case round =>
      obtain ⟨o, rfl, ho, hno, q, rfl⟩ := hrel
      have HNO := Lib.hid hno
      have HBQ := Lib.hid (HB.out.drewN q)
      clear hno
      by_cases ho10 : o < 10
      · rcases lt10 ho10 with rfl | rfl | rfl | rfl | rfl | rfl | rfl | rfl | rfl | rfl
        · as_aux_lemma =>
            have hbit : bits .andNot .i64 (k : Int) 0 = ((k / 2 ^ 0 * 2 ^ 0 : Nat) : Int) := bit_andnot k 0 (by omega) (by omega)
            obtain ⟨f, hf⟩ : ∃ f, k / 2 ^ 0 * 2 ^ 0 = f := ⟨_, rfl⟩
            rw [hf] at hbit
            have HF := Lib.hid hf
            have CB := Lib.hid (bs_own base 3 (vs 0) (R 0) f _ (HBQ.out.own 0 (by omega)) (HI.out.srt 0 (by omega)) (by have := HI.out.len 0 (by omega); omega))
            have hix : ∀ W : World, (Instr.index 52 (.agg #[vs 0, vs 1, vs 2, vs 3, vs 4, vs 5, vs 6, vs 7, vs 8, vs 9]) (.int .i64 0)).run Try.prog W = .ok (vs 0) W := fun W => run_index10 vs (by omega) W
            clear hf ho ho10
            go_wp2_with fail
            refine CB.out.mono ?_
            rintro e w1 ⟨rfl, q2, rfl⟩
            cases hc : (R 0).contains (f : Int)
            · have HN := Lib.hid (show ¬ Bud.Mx S (k / 2 ^ 0 * 2 ^ 0) 0 from fun hm => by
                rw [HF.out] at hm
                have := (HI.out.mem 0 (by omega) (f : Int)).2 ⟨f, rfl, hm⟩
                rw [← List.contains_iff_mem, hc] at this
                cases this)
              clear hc
              go_wp2
              go_roundw
              case rel => exact ⟨0 + 1, rfl, by omega, fun p hp => by
                by_cases e : p = 0
                · rw [e]; exact HN.out
                · exact HNO.out p (by omega), _, rfl⟩
              case measure => simp [cntI]
            · have HS := Lib.hid (show S k = true from by
                have := List.contains_iff_mem.1 hc
                obtain ⟨g, e, hm⟩ := (HI.out.mem 0 (by omega) (f : Int)).1 this
                have e2 : f = g := by omega
                rw [← e2, ← HF.out] at hm
                exact Bud.has_iff.2 ⟨0, by omega, hm⟩)
              clear hc
              go_wp2
              go_ret
              exact ⟨congrArg (fun b => Ending.returned (Value.bool b)) HS.out.symm, _, rfl⟩
        · as_aux_lemma =>
            have hbit : bits .andNot .i64 (k : Int) 1 = ((k / 2 ^ 1 * 2 ^ 1 : Nat) : Int) := bit_andnot k 1 (by omega) (by omega)
            obtain ⟨f, hf⟩ : ∃ f, k / 2 ^ 1 * 2 ^ 1 = f := ⟨_, rfl⟩
            rw [hf] at hbit
            have HF := Lib.hid hf
            have CB := Lib.hid (bs_own base 3 (vs 1) (R 1) f _ (HBQ.out.own 1 (by omega)) (HI.out.srt 1 (by omega)) (by have := HI.out.len 1 (by omega); omega))
            have hix : ∀ W : World, (Instr.index 52 (.agg #[vs 0, vs 1, vs 2, vs 3, vs 4, vs 5, vs 6, vs 7, vs 8, vs 9]) (.int .i64 1)).run Try.prog W = .ok (vs 1) W := fun W => run_index10 vs (by omega) W
            clear hf ho ho10
            go_wp2_with fail
            refine CB.out.mono ?_
            rintro e w1 ⟨rfl, q2, rfl⟩
            cases hc : (R 1).contains (f : Int)
            · have HN := Lib.hid (show ¬ Bud.Mx S (k / 2 ^ 1 * 2 ^ 1) 1 from fun hm => by
                rw [HF.out] at hm
                have := (HI.out.mem 1 (by omega) (f : Int)).2 ⟨f, rfl, hm⟩
                rw [← List.contains_iff_mem, hc] at this
                cases this)
              clear hc
              go_wp2
              go_roundw
              case rel => exact ⟨1 + 1, rfl, by omega, fun p hp => by
                by_cases e : p = 1
                · rw [e]; exact HN.out
                · exact HNO.out p (by omega), _, rfl⟩
              case measure => simp [cntI]
            · have HS := Lib.hid (show S k = true from by
                have := List.contains_iff_mem.1 hc
                obtain ⟨g, e, hm⟩ := (HI.out.mem 1 (by omega) (f : Int)).1 this
                have e2 : f = g := by omega
                rw [← e2, ← HF.out] at hm
                exact Bud.has_iff.2 ⟨1, by omega, hm⟩)
              clear hc
              go_wp2
              go_ret
              exact ⟨congrArg (fun b => Ending.returned (Value.bool b)) HS.out.symm, _, rfl⟩
        · as_aux_lemma =>
            have hbit : bits .andNot .i64 (k : Int) 3 = ((k / 2 ^ 2 * 2 ^ 2 : Nat) : Int) := bit_andnot k 2 (by omega) (by omega)
            obtain ⟨f, hf⟩ : ∃ f, k / 2 ^ 2 * 2 ^ 2 = f := ⟨_, rfl⟩
            rw [hf] at hbit
            have HF := Lib.hid hf
            have CB := Lib.hid (bs_own base 3 (vs 2) (R 2) f _ (HBQ.out.own 2 (by omega)) (HI.out.srt 2 (by omega)) (by have := HI.out.len 2 (by omega); omega))
            have hix : ∀ W : World, (Instr.index 52 (.agg #[vs 0, vs 1, vs 2, vs 3, vs 4, vs 5, vs 6, vs 7, vs 8, vs 9]) (.int .i64 2)).run Try.prog W = .ok (vs 2) W := fun W => run_index10 vs (by omega) W
            clear hf ho ho10
            go_wp2_with fail
            refine CB.out.mono ?_
            rintro e w1 ⟨rfl, q2, rfl⟩
            cases hc : (R 2).contains (f : Int)
            · have HN := Lib.hid (show ¬ Bud.Mx S (k / 2 ^ 2 * 2 ^ 2) 2 from fun hm => by
                rw [HF.out] at hm
                have := (HI.out.mem 2 (by omega) (f : Int)).2 ⟨f, rfl, hm⟩
                rw [← List.contains_iff_mem, hc] at this
                cases this)
              clear hc
              go_wp2
              go_roundw
              case rel => exact ⟨2 + 1, rfl, by omega, fun p hp => by
                by_cases e : p = 2
                · rw [e]; exact HN.out
                · exact HNO.out p (by omega), _, rfl⟩
              case measure => simp [cntI]
            · have HS := Lib.hid (show S k = true from by
                have := List.contains_iff_mem.1 hc
                obtain ⟨g, e, hm⟩ := (HI.out.mem 2 (by omega) (f : Int)).1 this
                have e2 : f = g := by omega
                rw [← e2, ← HF.out] at hm
                exact Bud.has_iff.2 ⟨2, by omega, hm⟩)
              clear hc
              go_wp2
              go_ret
              exact ⟨congrArg (fun b => Ending.returned (Value.bool b)) HS.out.symm, _, rfl⟩
        · as_aux_lemma =>
            have hbit : bits .andNot .i64 (k : Int) 7 = ((k / 2 ^ 3 * 2 ^ 3 : Nat) : Int) := bit_andnot k 3 (by omega) (by omega)
            obtain ⟨f, hf⟩ : ∃ f, k / 2 ^ 3 * 2 ^ 3 = f := ⟨_, rfl⟩
            rw [hf] at hbit
            have HF := Lib.hid hf
            have CB := Lib.hid (bs_own base 3 (vs 3) (R 3) f _ (HBQ.out.own 3 (by omega)) (HI.out.srt 3 (by omega)) (by have := HI.out.len 3 (by omega); omega))
            have hix : ∀ W : World, (Instr.index 52 (.agg #[vs 0, vs 1, vs 2, vs 3, vs 4, vs 5, vs 6, vs 7, vs 8, vs 9]) (.int .i64 3)).run Try.prog W = .ok (vs 3) W := fun W => run_index10 vs (by omega) W
            clear hf ho ho10
            go_wp2_with fail
            refine CB.out.mono ?_
            rintro e w1 ⟨rfl, q2, rfl⟩
            cases hc : (R 3).contains (f : Int)
            · have HN := Lib.hid (show ¬ Bud.Mx S (k / 2 ^ 3 * 2 ^ 3) 3 from fun hm => by
                rw [HF.out] at hm
                have := (HI.out.mem 3 (by omega) (f : Int)).2 ⟨f, rfl, hm⟩
                rw [← List.contains_iff_mem, hc] at this
                cases this)
              clear hc
              go_wp2
              go_roundw
              case rel => exact ⟨3 + 1, rfl, by omega, fun p hp => by
                by_cases e : p = 3
                · rw [e]; exact HN.out
                · exact HNO.out p (by omega), _, rfl⟩
              case measure => simp [cntI]
            · have HS := Lib.hid (show S k = true from by
                have := List.contains_iff_mem.1 hc
                obtain ⟨g, e, hm⟩ := (HI.out.mem 3 (by omega) (f : Int)).1 this
                have e2 : f = g := by omega
                rw [← e2, ← HF.out] at hm
                exact Bud.has_iff.2 ⟨3, by omega, hm⟩)
              clear hc
              go_wp2
              go_ret
              exact ⟨congrArg (fun b => Ending.returned (Value.bool b)) HS.out.symm, _, rfl⟩
        · as_aux_lemma =>
            have hbit : bits .andNot .i64 (k : Int) 15 = ((k / 2 ^ 4 * 2 ^ 4 : Nat) : Int) := bit_andnot k 4 (by omega) (by omega)
            obtain ⟨f, hf⟩ : ∃ f, k / 2 ^ 4 * 2 ^ 4 = f := ⟨_, rfl⟩
            rw [hf] at hbit
            have HF := Lib.hid hf
            have CB := Lib.hid (bs_own base 3 (vs 4) (R 4) f _ (HBQ.out.own 4 (by omega)) (HI.out.srt 4 (by omega)) (by have := HI.out.len 4 (by omega); omega))
            have hix : ∀ W : World, (Instr.index 52 (.agg #[vs 0, vs 1, vs 2, vs 3, vs 4, vs 5, vs 6, vs 7, vs 8, vs 9]) (.int .i64 4)).run Try.prog W = .ok (vs 4) W := fun W => run_index10 vs (by omega) W
            clear hf ho ho10
            go_wp2_with fail
            refine CB.out.mono ?_
            rintro e w1 ⟨rfl, q2, rfl⟩
            cases hc : (R 4).contains (f : Int)
            · have HN := Lib.hid (show ¬ Bud.Mx S (k / 2 ^ 4 * 2 ^ 4) 4 from fun hm => by
                rw [HF.out] at hm
                have := (HI.out.mem 4 (by omega) (f : Int)).2 ⟨f, rfl, hm⟩
                rw [← List.contains_iff_mem, hc] at this
                cases this)
              clear hc
              go_wp2
              go_roundw
              case rel => exact ⟨4 + 1, rfl, by omega, fun p hp => by
                by_cases e : p = 4
                · rw [e]; exact HN.out
                · exact HNO.out p (by omega), _, rfl⟩
              case measure => simp [cntI]
            · have HS := Lib.hid (show S k = true from by
                have := List.contains_iff_mem.1 hc
                obtain ⟨g, e, hm⟩ := (HI.out.mem 4 (by omega) (f : Int)).1 this
                have e2 : f = g := by omega
                rw [← e2, ← HF.out] at hm
                exact Bud.has_iff.2 ⟨4, by omega, hm⟩)
              clear hc
              go_wp2
              go_ret
              exact ⟨congrArg (fun b => Ending.returned (Value.bool b)) HS.out.symm, _, rfl⟩
        · as_aux_lemma =>
            have hbit : bits .andNot .i64 (k : Int) 31 = ((k / 2 ^ 5 * 2 ^ 5 : Nat) : Int) := bit_andnot k 5 (by omega) (by omega)
            obtain ⟨f, hf⟩ : ∃ f, k / 2 ^ 5 * 2 ^ 5 = f := ⟨_, rfl⟩
            rw [hf] at hbit
            have HF := Lib.hid hf
            have CB := Lib.hid (bs_own base 3 (vs 5) (R 5) f _ (HBQ.out.own 5 (by omega)) (HI.out.srt 5 (by omega)) (by have := HI.out.len 5 (by omega); omega))
            have hix : ∀ W : World, (Instr.index 52 (.agg #[vs 0, vs 1, vs 2, vs 3, vs 4, vs 5, vs 6, vs 7, vs 8, vs 9]) (.int .i64 5)).run Try.prog W = .ok (vs 5) W := fun W => run_index10 vs (by omega) W
            clear hf ho ho10
            go_wp2_with fail
            refine CB.out.mono ?_
            rintro e w1 ⟨rfl, q2, rfl⟩
            cases hc : (R 5).contains (f : Int)
            · have HN := Lib.hid (show ¬ Bud.Mx S (k / 2 ^ 5 * 2 ^ 5) 5 from fun hm => by
                rw [HF.out] at hm
                have := (HI.out.mem 5 (by omega) (f : Int)).2 ⟨f, rfl, hm⟩
                rw [← List.contains_iff_mem, hc] at this
                cases this)
              clear hc
              go_wp2
              go_roundw
              case rel => exact ⟨5 + 1, rfl, by omega, fun p hp => by
                by_cases e : p = 5
                · rw [e]; exact HN.out
                · exact HNO.out p (by omega), _, rfl⟩
              case measure => simp [cntI]
            · have HS := Lib.hid (show S k = true from by
                have := List.contains_iff_mem.1 hc
                obtain ⟨g, e, hm⟩ := (HI.out.mem 5 (by omega) (f : Int)).1 this
                have e2 : f = g := by omega
                rw [← e2, ← HF.out] at hm
                exact Bud.has_iff.2 ⟨5, by omega, hm⟩)
              clear hc
              go_wp2
              go_ret
              exact ⟨congrArg (fun b => Ending.returned (Value.bool b)) HS.out.symm, _, rfl⟩
        · as_aux_lemma =>
            have hbit : bits .andNot .i64 (k : Int) 63 = ((k / 2 ^ 6 * 2 ^ 6 : Nat) : Int) := bit_andnot k 6 (by omega) (by omega)
            obtain ⟨f, hf⟩ : ∃ f, k / 2 ^ 6 * 2 ^ 6 = f := ⟨_, rfl⟩
            rw [hf] at hbit
            have HF := Lib.hid hf
            have CB := Lib.hid (bs_own base 3 (vs 6) (R 6) f _ (HBQ.out.own 6 (by omega)) (HI.out.srt 6 (by omega)) (by have := HI.out.len 6 (by omega); omega))
            have hix : ∀ W : World, (Instr.index 52 (.agg #[vs 0, vs 1, vs 2, vs 3, vs 4, vs 5, vs 6, vs 7, vs 8, vs 9]) (.int .i64 6)).run Try.prog W = .ok (vs 6) W := fun W => run_index10 vs (by omega) W
            clear hf ho ho10
            go_wp2_with fail
            refine CB.out.mono ?_
            rintro e w1 ⟨rfl, q2, rfl⟩
            cases hc : (R 6).contains (f : Int)
            · have HN := Lib.hid (show ¬ Bud.Mx S (k / 2 ^ 6 * 2 ^ 6) 6 from fun hm => by
                rw [HF.out] at hm
                have := (HI.out.mem 6 (by omega) (f : Int)).2 ⟨f, rfl, hm⟩
                rw [← List.contains_iff_mem, hc] at this
                cases this)
              clear hc
              go_wp2
              go_roundw
              case rel => exact ⟨6 + 1, rfl, by omega, fun p hp => by
                by_cases e : p = 6
                · rw [e]; exact HN.out
                · exact HNO.out p (by omega), _, rfl⟩
              case measure => simp [cntI]
            · have HS := Lib.hid (show S k = true from by
                have := List.contains_iff_mem.1 hc
                obtain ⟨g, e, hm⟩ := (HI.out.mem 6 (by omega) (f : Int)).1 this
                have e2 : f = g := by omega
                rw [← e2, ← HF.out] at hm
                exact Bud.has_iff.2 ⟨6, by omega, hm⟩)
              clear hc
              go_wp2
              go_ret
              exact ⟨congrArg (fun b => Ending.returned (Value.bool b)) HS.out.symm, _, rfl⟩
        · as_aux_lemma =>
            have hbit : bits .andNot .i64 (k : Int) 127 = ((k / 2 ^ 7 * 2 ^ 7 : Nat) : Int) := bit_andnot k 7 (by omega) (by omega)
            obtain ⟨f, hf⟩ : ∃ f, k / 2 ^ 7 * 2 ^ 7 = f := ⟨_, rfl⟩
            rw [hf] at hbit
            have HF := Lib.hid hf
            have CB := Lib.hid (bs_own base 3 (vs 7) (R 7) f _ (HBQ.out.own 7 (by omega)) (HI.out.srt 7 (by omega)) (by have := HI.out.len 7 (by omega); omega))
            have hix : ∀ W : World, (Instr.index 52 (.agg #[vs 0, vs 1, vs 2, vs 3, vs 4, vs 5, vs 6, vs 7, vs 8, vs 9]) (.int .i64 7)).run Try.prog W = .ok (vs 7) W := fun W => run_index10 vs (by omega) W
            clear hf ho ho10
            go_wp2_with fail
            refine CB.out.mono ?_
            rintro e w1 ⟨rfl, q2, rfl⟩
            cases hc : (R 7).contains (f : Int)
            · have HN := Lib.hid (show ¬ Bud.Mx S (k / 2 ^ 7 * 2 ^ 7) 7 from fun hm => by
                rw [HF.out] at hm
                have := (HI.out.mem 7 (by omega) (f : Int)).2 ⟨f, rfl, hm⟩
                rw [← List.contains_iff_mem, hc] at this
                cases this)
              clear hc
              go_wp2
              go_roundw
              case rel => exact ⟨7 + 1, rfl, by omega, fun p hp => by
                by_cases e : p = 7
                · rw [e]; exact HN.out
                · exact HNO.out p (by omega), _, rfl⟩
              case measure => simp [cntI]
            · have HS := Lib.hid (show S k = true from by
                have := List.contains_iff_mem.1 hc
                obtain ⟨g, e, hm⟩ := (HI.out.mem 7 (by omega) (f : Int)).1 this
                have e2 : f = g := by omega
                rw [← e2, ← HF.out] at hm
                exact Bud.has_iff.2 ⟨7, by omega, hm⟩)
              clear hc
              go_wp2
              go_ret
              exact ⟨congrArg (fun b => Ending.returned (Value.bool b)) HS.out.symm, _, rfl⟩
        · as_aux_lemma =>
            have hbit : bits .andNot .i64 (k : Int) 255 = ((k / 2 ^ 8 * 2 ^ 8 : Nat) : Int) := bit_andnot k 8 (by omega) (by omega)
            obtain ⟨f, hf⟩ : ∃ f, k / 2 ^ 8 * 2 ^ 8 = f := ⟨_, rfl⟩
            rw [hf] at hbit
            have HF := Lib.hid hf
            have CB := Lib.hid (bs_own base 3 (vs 8) (R 8) f _ (HBQ.out.own 8 (by omega)) (HI.out.srt 8 (by omega)) (by have := HI.out.len 8 (by omega); omega))
            have hix : ∀ W : World, (Instr.index 52 (.agg #[vs 0, vs 1, vs 2, vs 3, vs 4, vs 5, vs 6, vs 7, vs 8, vs 9]) (.int .i64 8)).run Try.prog W = .ok (vs 8) W := fun W => run_index10 vs (by omega) W
            clear hf ho ho10
            go_wp2_with fail
            refine CB.out.mono ?_
            rintro e w1 ⟨rfl, q2, rfl⟩
            cases hc : (R 8).contains (f : Int)
            · have HN := Lib.hid (show ¬ Bud.Mx S (k / 2 ^ 8 * 2 ^ 8) 8 from fun hm => by
                rw [HF.out] at hm
                have := (HI.out.mem 8 (by omega) (f : Int)).2 ⟨f, rfl, hm⟩
                rw [← List.contains_iff_mem, hc] at this
                cases this)
              clear hc
              go_wp2
              go_roundw
              case rel => exact ⟨8 + 1, rfl, by omega, fun p hp => by
                by_cases e : p = 8
                · rw [e]; exact HN.out
                · exact HNO.out p (by omega), _, rfl⟩
              case measure => simp [cntI]
            · have HS := Lib.hid (show S k = true from by
                have := List.contains_iff_mem.1 hc
                obtain ⟨g, e, hm⟩ := (HI.out.mem 8 (by omega) (f : Int)).1 this
                have e2 : f = g := by omega
                rw [← e2, ← HF.out] at hm
                exact Bud.has_iff.2 ⟨8, by omega, hm⟩)
              clear hc
              go_wp2
              go_ret
              exact ⟨congrArg (fun b => Ending.returned (Value.bool b)) HS.out.symm, _, rfl⟩
        · as_aux_lemma =>
            have hbit : bits .andNot .i64 (k : Int) 511 = ((k / 2 ^ 9 * 2 ^ 9 : Nat) : Int) := bit_andnot k 9 (by omega) (by omega)
            obtain ⟨f, hf⟩ : ∃ f, k / 2 ^ 9 * 2 ^ 9 = f := ⟨_, rfl⟩
            rw [hf] at hbit
            have HF := Lib.hid hf
            have CB := Lib.hid (bs_own base 3 (vs 9) (R 9) f _ (HBQ.out.own 9 (by omega)) (HI.out.srt 9 (by omega)) (by have := HI.out.len 9 (by omega); omega))
            have hix : ∀ W : World, (Instr.index 52 (.agg #[vs 0, vs 1, vs 2, vs 3, vs 4, vs 5, vs 6, vs 7, vs 8, vs 9]) (.int .i64 9)).run Try.prog W = .ok (vs 9) W := fun W => run_index10 vs (by omega) W
            clear hf ho ho10
            go_wp2_with fail
            refine CB.out.mono ?_
            rintro e w1 ⟨rfl, q2, rfl⟩
            cases hc : (R 9).contains (f : Int)
            · have HN := Lib.hid (show ¬ Bud.Mx S (k / 2 ^ 9 * 2 ^ 9) 9 from fun hm => by
                rw [HF.out] at hm
                have := (HI.out.mem 9 (by omega) (f : Int)).2 ⟨f, rfl, hm⟩
                rw [← List.contains_iff_mem, hc] at this
                cases this)
              clear hc
              go_wp2
              go_roundw
              case rel => exact ⟨9 + 1, rfl, by omega, fun p hp => by
                by_cases e : p = 9
                · rw [e]; exact HN.out
                · exact HNO.out p (by omega), _, rfl⟩
              case measure => simp [cntI]
            · have HS := Lib.hid (show S k = true from by
                have := List.contains_iff_mem.1 hc
                obtain ⟨g, e, hm⟩ := (HI.out.mem 9 (by omega) (f : Int)).1 this
                have e2 : f = g := by omega
                rw [← e2, ← HF.out] at hm
                exact Bud.has_iff.2 ⟨9, by omega, hm⟩)
              clear hc
              go_wp2
              go_ret
              exact ⟨congrArg (fun b => Ending.returned (Value.bool b)) HS.out.symm, _, rfl⟩
      · obtain rfl : o = 10 := by omega
        have hS : S k = false := by
          cases hs : S k
          · rfl
          · obtain ⟨p, hp, hm⟩ := Bud.has_iff.1 hs
            exact absurd hm (HNO.out p (by omega))
        have HS := Lib.hid hS
        clear ho10 hS
        go_wp2
        go_ret
        exact ⟨congrArg (fun b => Ending.returned (Value.bool b)) HS.out.symm, q, rfl⟩
  · have e0 : hasF S x = false := by
      unfold hasF
      by_cases h0 : 0 ≤ x
      · cases hs : S x.toNat
        · simp
        · have := hr.all _ hs
          omega
      · simp; omega
    rw [e0]
    have g1 : x < fi ∨ (fi ≤ x ∧ en ≤ x) := by omega
    clear h hI hr hx e0
    rcases g1 with g1 | ⟨g1, g2⟩
    · go_enter Try.func17, Try.ntmps17
      go_wp2
      go_ret
      exact ⟨rfl, 0, rfl⟩
    · have g3 : decide (x < fi) = false := by simp; omega
      go_enter Try.func17, Try.ntmps17
      go_wp2
      go_ret
      exact ⟨rfl, 0, rfl⟩
end Go.Proofs.Ytmmjkebhcihjlaa
