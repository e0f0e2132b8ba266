import Derived.Test.YtjofegjiakjjhaaDoorMSpk
/- Script, the program: number, either, bits. -/
namespace Go.Proofs.YtjofegjiakjjhaaDoor
open Go.RowKit Go.Lib

def offF : Fd → Option Nat
  | .g => some 1 | .p => some 5 | .s => some 3 | .a => some 7 | .w => some 10 | .t => some 9 | _ => none
set_option maxRecDepth 20000 in
set_option maxHeartbeats 4000000 in
theorem lnumber (b : Nat) (c : Fd) (w : World) : Calls Tryd.prog 42 #[.pointer (some ⟨b, 0, none⟩), .int .u8 ((pcd c).toNat : Int)] w fun e w' => e = .returned (.pointer ((offF c).map fun k => ⟨b, k, none⟩)) ∧ w = w' := by
  cases c
  all_goals
    show Calls _ _ #[_, .int .u8 _] _ _
    unfold pcd
    dsimp only
    go_enter Tryd.func42, Tryd.ntmps42
    go_wp2
    go_ret
    exact ⟨rfl, rfl⟩
theorem leither_t (y n : Bs) (w : World) : Calls Tryd.prog 43 #[.bool true, bv y, bv n] w fun e w' => e = .returned (bv y) ∧ w = w' := by
  go_enter Tryd.func43, Tryd.ntmps43
  go_wp2
  go_ret
  exact ⟨rfl, rfl⟩
theorem leither_f (y n : Bs) (w : World) : Calls Tryd.prog 43 #[.bool false, bv y, bv n] w fun e w' => e = .returned (bv n) ∧ w = w' := by
  go_enter Tryd.func43, Tryd.ntmps43
  go_wp2
  go_ret
  exact ⟨rfl, rfl⟩
def BitR (w : World) (l : List Bool) (v : Value) (wr : World) : Prop := ∃ i : Nat, v = .int .i64 i ∧ i ≤ l.length ∧ Bld w.heap.size w.heap.size (failM (l.take i)) wr ∧ Below w.heap.size w wr
set_option maxRecDepth 20000 in
set_option maxHeartbeats 4000000 in
theorem lbits (l : List Bool) (hl : l.length ≤ 1000000) (F : Value) (w : World) (hf : FailsAt w w.heap.size F l) : Calls Tryd.prog 45 #[F] w (NumIs w (failW l)) := by
  obtain ⟨A, cc, rfl, hr⟩ := hf
  obtain ⟨n, hn⟩ : ∃ n, l.length = n := ⟨_, rfl⟩
  rw [hn] at hr hl ⊢
  by_cases h0 : n = 0
  · have hq : ((n : Int) == 0) = true := by simp; exact h0
    have HE := Lib.hid (show failW l = [45] from by rw [failW, if_pos (List.eq_nil_of_length_eq_zero (hn.trans h0))])
    clear hn h0
    go_enter Tryd.func45, Tryd.ntmps45
    go_wp2
    go_ret
    exact ⟨by rw [HE.out]; rfl, Below.refl _ _⟩
  · have hq : ((n : Int) == 0) = false := by simp; exact h0
    have HE := Lib.hid (show failW l = failM l from by rw [failW, if_neg (fun e => h0 (by rw [← hn, e]; rfl))]; rfl)
    have HR := Lib.hid hr
    have HN := Lib.hid hn
    clear hn h0 hr
    have HB0 := Lib.hid (Bld.fresh w)
    have HBE := Lib.hid ((Below.refl w.heap.size w).alloc (Nat.le_refl _) (.cells #[.pointer none, .slice none 0 0] 78))
    go_enter Tryd.func45, Tryd.ntmps45
    go_wp2_with fail
    go_loopw [11] (BitR w l) (fun v _ => n - cntZ v)
    case atStart => exact ⟨0, rfl, Nat.zero_le _, HB0.out, HBE.out⟩
    case round =>
      clear HB0 HBE
      obtain ⟨i, rfl, hi, hB, hbe⟩ := hrel
      have HB := Lib.hid hB
      have HBE := Lib.hid hbe
      have hi' : i ≤ n := by rw [← HN.out]; exact hi
      clear hB hbe
      by_cases hin : i < n
      · have g1 : decide ((i : Int) < (n : Int)) = true := by simp; exact hin
        have g1' : decide (i < n) = true := by simp; exact hin
        have hin2 : (i : Int) < (n : Int) := by omega
        obtain ⟨x, hx⟩ : ∃ x, l[i]? = some x := ⟨_, List.getElem?_eq_getElem (by rw [HN.out]; exact hin)⟩
        obtain ⟨ad, rfl, hadb, hc⟩ := (HR.out.below HBE.out).2 (by omega)
        have ci := hc i (.bool x) (by rw [List.getElem?_map, hx]; rfl)
        have HX := Lib.hid hx
        clear hc hadb hx
        cases x with
        | true =>
          go_wp2_with fail
          refine (leither_t [120] [111] _).mono ?_; rintro e _ ⟨rfl, rfl⟩
          go_wp2_with fail
          refine (lbws HB.out [120] (by rw [failM_len l i hi]; show i + 1 ≤ _; omega) HBE.out.size).mono ?_; rintro e w4 ⟨rfl, hB, hb⟩
          go_wp2
          exact ⟨⟨i + 1, by go_num, by rw [HN.out]; omega, by rw [failM_snoc HX.out]; exact hB, HBE.out.trans hb⟩, cntZ_lt hin⟩
        | false =>
          go_wp2_with fail
          refine (leither_f [120] [111] _).mono ?_; rintro e _ ⟨rfl, rfl⟩
          go_wp2_with fail
          refine (lbws HB.out [111] (by rw [failM_len l i hi]; show i + 1 ≤ _; omega) HBE.out.size).mono ?_; rintro e w4 ⟨rfl, hB, hb⟩
          go_wp2
          exact ⟨⟨i + 1, by go_num, by rw [HN.out]; omega, by rw [failM_snoc HX.out]; exact hB, HBE.out.trans hb⟩, cntZ_lt hin⟩
      · obtain rfl : i = n := by omega
        have g1 : decide ((i : Int) < (i : Int)) = false := by simp
        go_wp2_with fail
        refine (lbs HB.out HBE.out.size).mono ?_; rintro e w4 ⟨rfl, hb⟩
        go_wp2
        go_ret
        exact ⟨by rw [HE.out, List.take_of_length_le (by rw [HN.out]; exact Nat.le_refl _)]; rfl, HBE.out.trans hb⟩
end Go.Proofs.YtjofegjiakjjhaaDoor
/- Script, the program: same. -/
namespace Go.Proofs.YtjofegjiakjjhaaDoor
open Go.RowKit Go.Lib

def sameB (a b : St) : Bool := (a.kind == b.kind) && (a.guest == b.guest) && (a.addr == b.addr) && (a.size == b.size) && (a.value == b.value) && (a.page == b.page) && (a.on == b.on) && (a.asid == b.asid) && (a.what == b.what) && (a.set == b.set) && (a.way == b.way)
theorem sameB_iff (a b : St) : sameB a b = true ↔ Same1 a b := by
  unfold sameB Same1
  simp only [Bool.and_eq_true, beq_iff_eq, and_assoc]
set_option maxRecDepth 20000 in
set_option maxHeartbeats 8000000 in
theorem lsame (s t : St) (F G : Value) (w : World) : Calls Tryd.prog 26 #[.agg (stC s F), .agg (stC t G)] w fun e w' => e = .returned (.bool (sameB s t)) ∧ Below w.heap.size w w' := by
  have HBX := Lib.hid (fun (cs ds : Array Value) => ((Below.refl w.heap.size w).alloc (Nat.le_refl _) (.cells cs 25)).alloc (show w.heap.size ≤ _ from by simp) (.cells ds 25))
  unfold sameB stC
  generalize s.kind = a0, s.guest = a1, s.addr = a2, s.size = a3, s.value = a4, s.page = a5, s.on = a6, s.asid = a7, s.what = a8, s.set = a9, s.way = a10
  generalize t.kind = x0, t.guest = x1, t.addr = x2, t.size = x3, t.value = x4, t.page = x5, t.on = x6, t.asid = x7, t.what = x8, t.set = x9, t.way = x10
  go_enter Tryd.func26, Tryd.ntmps26
  go_upto_region 1 with fail
  rename_i hK
  have hsz : (w.alloc (.cells #[.int .i64 a0, .int .i64 a1, .int .u64 a2, .int .i64 a3, .int .u64 a4, .int .i64 a5, .bool a6, .int .i64 a7, .int .i64 a8, .int .i64 a9, .int .i64 a10, F] 25)).heap.size = w.heap.size + 1 := by simp
  generalize hW : (w.alloc (.cells #[.int .i64 a0, .int .i64 a1, .int .u64 a2, .int .i64 a3, .int .u64 a4, .int .i64 a5, .bool a6, .int .i64 a7, .int .i64 a8, .int .i64 a9, .int .i64 a10, F] 25)).alloc _ = w0
  have l0 : w0.cell? ⟨w.heap.size, 0, none⟩ = some (.int .i64 a0) := by subst hW; rw [World.cell?_alloc_lt _ _ _ (by rw [hsz]; exact Nat.lt_succ_self _)]; exact World.cell?_alloc_at _ _ _ _ (by simp)
  have m0 : w0.cell? ⟨w.heap.size + 1, 0, none⟩ = some (.int .i64 x0) := by subst hW; rw [← hsz]; exact World.cell?_alloc_at _ _ _ _ (by simp)
  have l1 : w0.cell? ⟨w.heap.size, 1, none⟩ = some (.int .i64 a1) := by subst hW; rw [World.cell?_alloc_lt _ _ _ (by rw [hsz]; exact Nat.lt_succ_self _)]; exact World.cell?_alloc_at _ _ _ _ (by simp)
  have m1 : w0.cell? ⟨w.heap.size + 1, 1, none⟩ = some (.int .i64 x1) := by subst hW; rw [← hsz]; exact World.cell?_alloc_at _ _ _ _ (by simp)
  have l2 : w0.cell? ⟨w.heap.size, 2, none⟩ = some (.int .u64 a2) := by subst hW; rw [World.cell?_alloc_lt _ _ _ (by rw [hsz]; exact Nat.lt_succ_self _)]; exact World.cell?_alloc_at _ _ _ _ (by simp)
  have m2 : w0.cell? ⟨w.heap.size + 1, 2, none⟩ = some (.int .u64 x2) := by subst hW; rw [← hsz]; exact World.cell?_alloc_at _ _ _ _ (by simp)
  have l3 : w0.cell? ⟨w.heap.size, 3, none⟩ = some (.int .i64 a3) := by subst hW; rw [World.cell?_alloc_lt _ _ _ (by rw [hsz]; exact Nat.lt_succ_self _)]; exact World.cell?_alloc_at _ _ _ _ (by simp)
  have m3 : w0.cell? ⟨w.heap.size + 1, 3, none⟩ = some (.int .i64 x3) := by subst hW; rw [← hsz]; exact World.cell?_alloc_at _ _ _ _ (by simp)
  have l4 : w0.cell? ⟨w.heap.size, 4, none⟩ = some (.int .u64 a4) := by subst hW; rw [World.cell?_alloc_lt _ _ _ (by rw [hsz]; exact Nat.lt_succ_self _)]; exact World.cell?_alloc_at _ _ _ _ (by simp)
  have m4 : w0.cell? ⟨w.heap.size + 1, 4, none⟩ = some (.int .u64 x4) := by subst hW; rw [← hsz]; exact World.cell?_alloc_at _ _ _ _ (by simp)
  have l5 : w0.cell? ⟨w.heap.size, 5, none⟩ = some (.int .i64 a5) := by subst hW; rw [World.cell?_alloc_lt _ _ _ (by rw [hsz]; exact Nat.lt_succ_self _)]; exact World.cell?_alloc_at _ _ _ _ (by simp)
  have m5 : w0.cell? ⟨w.heap.size + 1, 5, none⟩ = some (.int .i64 x5) := by subst hW; rw [← hsz]; exact World.cell?_alloc_at _ _ _ _ (by simp)
  have l6 : w0.cell? ⟨w.heap.size, 6, none⟩ = some (.bool a6) := by subst hW; rw [World.cell?_alloc_lt _ _ _ (by rw [hsz]; exact Nat.lt_succ_self _)]; exact World.cell?_alloc_at _ _ _ _ (by simp)
  have m6 : w0.cell? ⟨w.heap.size + 1, 6, none⟩ = some (.bool x6) := by subst hW; rw [← hsz]; exact World.cell?_alloc_at _ _ _ _ (by simp)
  have l7 : w0.cell? ⟨w.heap.size, 7, none⟩ = some (.int .i64 a7) := by subst hW; rw [World.cell?_alloc_lt _ _ _ (by rw [hsz]; exact Nat.lt_succ_self _)]; exact World.cell?_alloc_at _ _ _ _ (by simp)
  have m7 : w0.cell? ⟨w.heap.size + 1, 7, none⟩ = some (.int .i64 x7) := by subst hW; rw [← hsz]; exact World.cell?_alloc_at _ _ _ _ (by simp)
  have l8 : w0.cell? ⟨w.heap.size, 8, none⟩ = some (.int .i64 a8) := by subst hW; rw [World.cell?_alloc_lt _ _ _ (by rw [hsz]; exact Nat.lt_succ_self _)]; exact World.cell?_alloc_at _ _ _ _ (by simp)
  have m8 : w0.cell? ⟨w.heap.size + 1, 8, none⟩ = some (.int .i64 x8) := by subst hW; rw [← hsz]; exact World.cell?_alloc_at _ _ _ _ (by simp)
  have l9 : w0.cell? ⟨w.heap.size, 9, none⟩ = some (.int .i64 a9) := by subst hW; rw [World.cell?_alloc_lt _ _ _ (by rw [hsz]; exact Nat.lt_succ_self _)]; exact World.cell?_alloc_at _ _ _ _ (by simp)
  have m9 : w0.cell? ⟨w.heap.size + 1, 9, none⟩ = some (.int .i64 x9) := by subst hW; rw [← hsz]; exact World.cell?_alloc_at _ _ _ _ (by simp)
  have l10 : w0.cell? ⟨w.heap.size, 10, none⟩ = some (.int .i64 a10) := by subst hW; rw [World.cell?_alloc_lt _ _ _ (by rw [hsz]; exact Nat.lt_succ_self _)]; exact World.cell?_alloc_at _ _ _ _ (by simp)
  have m10 : w0.cell? ⟨w.heap.size + 1, 10, none⟩ = some (.int .i64 x10) := by subst hW; rw [← hsz]; exact World.cell?_alloc_at _ _ _ _ (by simp)
  have hbw : Below w.heap.size w w0 := by subst hW; exact HBX.out _ _
  clear hW HBX hsz
  obtain ⟨B2, hB2⟩ : ∃ n, w.heap.size + 1 = n := ⟨_, rfl⟩
  rw [hB2] at m0 m1 m2 m3 m4 m5 m6 m7 m8 m9 m10 ⊢
  apply wp_region_lit
  (try simp only [List.append_eq, List.cons_append, List.nil_append])
  refine wlV1 (v := .pointer (some ⟨w.heap.size, 0, none⟩)) (by kernel_rfl) (by kernel_rfl) ?_
  (try simp only [Act.put, List.setIfInBounds_toArray, List.set_cons_zero, List.set_cons_succ])
  refine wlV1 (v := .int .i64 a0) (by kernel_rfl) (by go_simp) ?_
  (try simp only [Act.put, List.setIfInBounds_toArray, List.set_cons_zero, List.set_cons_succ])
  refine wlV1 (v := .pointer (some ⟨B2, 0, none⟩)) (by kernel_rfl) (by kernel_rfl) ?_
  (try simp only [Act.put, List.setIfInBounds_toArray, List.set_cons_zero, List.set_cons_succ])
  refine wlV1 (v := .int .i64 x0) (by kernel_rfl) (by go_simp) ?_
  (try simp only [Act.put, List.setIfInBounds_toArray, List.set_cons_zero, List.set_cons_succ])
  refine wlV1 (v := .bool (a0 == x0)) (by kernel_rfl) (by kernel_rfl) ?_
  (try simp only [Act.put, List.setIfInBounds_toArray, List.set_cons_zero, List.set_cons_succ])
  obtain ⟨b1, hb1⟩ : ∃ b, (a0 == x0) = b := ⟨_, rfl⟩
  rw [hb1]
  refine wlV1 (v := .bool b1) (by kernel_rfl) (by kernel_rfl) ?_
  (try simp only [Act.put, List.setIfInBounds_toArray, List.set_cons_zero, List.set_cons_succ])
  refine wlV (c := b1) (v := .pointer (some ⟨w.heap.size, 1, none⟩)) (by cases b1 <;> kernel_rfl) (by intro hc9; subst hc9; kernel_rfl) ?_
  (try simp only [Act.put, List.setIfInBounds_toArray, List.set_cons_zero, List.set_cons_succ])
  refine wlV (c := b1) (v := .int .i64 a1) (by cases b1 <;> kernel_rfl) (by intro hc9; subst hc9; go_simp) ?_
  (try simp only [Act.put, List.setIfInBounds_toArray, List.set_cons_zero, List.set_cons_succ])
  refine wlV (c := b1) (v := .pointer (some ⟨B2, 1, none⟩)) (by cases b1 <;> kernel_rfl) (by intro hc9; subst hc9; kernel_rfl) ?_
  (try simp only [Act.put, List.setIfInBounds_toArray, List.set_cons_zero, List.set_cons_succ])
  refine wlV (c := b1) (v := .int .i64 x1) (by cases b1 <;> kernel_rfl) (by intro hc9; subst hc9; go_simp) ?_
  (try simp only [Act.put, List.setIfInBounds_toArray, List.set_cons_zero, List.set_cons_succ])
  refine wlV (c := b1) (v := .bool (a1 == x1)) (by cases b1 <;> kernel_rfl) (by intro hc9; subst hc9; kernel_rfl) ?_
  (try simp only [Act.put, List.setIfInBounds_toArray, List.set_cons_zero, List.set_cons_succ])
  refine wlV1 (v := .bool (b1 && (a1 == x1))) (by kernel_rfl) (by cases b1 <;> kernel_rfl) ?_
  (try simp only [Act.put, List.setIfInBounds_toArray, List.set_cons_zero, List.set_cons_succ])
  obtain ⟨b2, hb2⟩ : ∃ x, (b1 && (a1 == x1)) = x := ⟨_, rfl⟩
  rw [hb2]
  refine wlV1 (v := .bool b2) (by kernel_rfl) (by kernel_rfl) ?_
  (try simp only [Act.put, List.setIfInBounds_toArray, List.set_cons_zero, List.set_cons_succ])
  refine wlV (c := b2) (v := .pointer (some ⟨w.heap.size, 2, none⟩)) (by cases b2 <;> kernel_rfl) (by intro hc9; subst hc9; kernel_rfl) ?_
  (try simp only [Act.put, List.setIfInBounds_toArray, List.set_cons_zero, List.set_cons_succ])
  refine wlV (c := b2) (v := .int .u64 a2) (by cases b2 <;> kernel_rfl) (by intro hc9; subst hc9; go_simp) ?_
  (try simp only [Act.put, List.setIfInBounds_toArray, List.set_cons_zero, List.set_cons_succ])
  refine wlV (c := b2) (v := .pointer (some ⟨B2, 2, none⟩)) (by cases b2 <;> kernel_rfl) (by intro hc9; subst hc9; kernel_rfl) ?_
  (try simp only [Act.put, List.setIfInBounds_toArray, List.set_cons_zero, List.set_cons_succ])
  refine wlV (c := b2) (v := .int .u64 x2) (by cases b2 <;> kernel_rfl) (by intro hc9; subst hc9; go_simp) ?_
  (try simp only [Act.put, List.setIfInBounds_toArray, List.set_cons_zero, List.set_cons_succ])
  refine wlV (c := b2) (v := .bool (a2 == x2)) (by cases b2 <;> kernel_rfl) (by intro hc9; subst hc9; kernel_rfl) ?_
  (try simp only [Act.put, List.setIfInBounds_toArray, List.set_cons_zero, List.set_cons_succ])
  refine wlV1 (v := .bool (b2 && (a2 == x2))) (by kernel_rfl) (by cases b2 <;> kernel_rfl) ?_
  (try simp only [Act.put, List.setIfInBounds_toArray, List.set_cons_zero, List.set_cons_succ])
  obtain ⟨b3, hb3⟩ : ∃ x, (b2 && (a2 == x2)) = x := ⟨_, rfl⟩
  rw [hb3]
  refine wlV1 (v := .bool b3) (by kernel_rfl) (by kernel_rfl) ?_
  (try simp only [Act.put, List.setIfInBounds_toArray, List.set_cons_zero, List.set_cons_succ])
  refine wlV (c := b3) (v := .pointer (some ⟨w.heap.size, 3, none⟩)) (by cases b3 <;> kernel_rfl) (by intro hc9; subst hc9; kernel_rfl) ?_
  (try simp only [Act.put, List.setIfInBounds_toArray, List.set_cons_zero, List.set_cons_succ])
  refine wlV (c := b3) (v := .int .i64 a3) (by cases b3 <;> kernel_rfl) (by intro hc9; subst hc9; go_simp) ?_
  (try simp only [Act.put, List.setIfInBounds_toArray, List.set_cons_zero, List.set_cons_succ])
  refine wlV (c := b3) (v := .pointer (some ⟨B2, 3, none⟩)) (by cases b3 <;> kernel_rfl) (by intro hc9; subst hc9; kernel_rfl) ?_
  (try simp only [Act.put, List.setIfInBounds_toArray, List.set_cons_zero, List.set_cons_succ])
  refine wlV (c := b3) (v := .int .i64 x3) (by cases b3 <;> kernel_rfl) (by intro hc9; subst hc9; go_simp) ?_
  (try simp only [Act.put, List.setIfInBounds_toArray, List.set_cons_zero, List.set_cons_succ])
  refine wlV (c := b3) (v := .bool (a3 == x3)) (by cases b3 <;> kernel_rfl) (by intro hc9; subst hc9; kernel_rfl) ?_
  (try simp only [Act.put, List.setIfInBounds_toArray, List.set_cons_zero, List.set_cons_succ])
  refine wlV1 (v := .bool (b3 && (a3 == x3))) (by kernel_rfl) (by cases b3 <;> kernel_rfl) ?_
  (try simp only [Act.put, List.setIfInBounds_toArray, List.set_cons_zero, List.set_cons_succ])
  obtain ⟨b4, hb4⟩ : ∃ x, (b3 && (a3 == x3)) = x := ⟨_, rfl⟩
  rw [hb4]
  refine wlV1 (v := .bool b4) (by kernel_rfl) (by kernel_rfl) ?_
  (try simp only [Act.put, List.setIfInBounds_toArray, List.set_cons_zero, List.set_cons_succ])
  refine wlV (c := b4) (v := .pointer (some ⟨w.heap.size, 4, none⟩)) (by cases b4 <;> kernel_rfl) (by intro hc9; subst hc9; kernel_rfl) ?_
  (try simp only [Act.put, List.setIfInBounds_toArray, List.set_cons_zero, List.set_cons_succ])
  refine wlV (c := b4) (v := .int .u64 a4) (by cases b4 <;> kernel_rfl) (by intro hc9; subst hc9; go_simp) ?_
  (try simp only [Act.put, List.setIfInBounds_toArray, List.set_cons_zero, List.set_cons_succ])
  refine wlV (c := b4) (v := .pointer (some ⟨B2, 4, none⟩)) (by cases b4 <;> kernel_rfl) (by intro hc9; subst hc9; kernel_rfl) ?_
  (try simp only [Act.put, List.setIfInBounds_toArray, List.set_cons_zero, List.set_cons_succ])
  refine wlV (c := b4) (v := .int .u64 x4) (by cases b4 <;> kernel_rfl) (by intro hc9; subst hc9; go_simp) ?_
  (try simp only [Act.put, List.setIfInBounds_toArray, List.set_cons_zero, List.set_cons_succ])
  refine wlV (c := b4) (v := .bool (a4 == x4)) (by cases b4 <;> kernel_rfl) (by intro hc9; subst hc9; kernel_rfl) ?_
  (try simp only [Act.put, List.setIfInBounds_toArray, List.set_cons_zero, List.set_cons_succ])
  refine wlV1 (v := .bool (b4 && (a4 == x4))) (by kernel_rfl) (by cases b4 <;> kernel_rfl) ?_
  (try simp only [Act.put, List.setIfInBounds_toArray, List.set_cons_zero, List.set_cons_succ])
  obtain ⟨b5, hb5⟩ : ∃ x, (b4 && (a4 == x4)) = x := ⟨_, rfl⟩
  rw [hb5]
  refine wlV1 (v := .bool b5) (by kernel_rfl) (by kernel_rfl) ?_
  (try simp only [Act.put, List.setIfInBounds_toArray, List.set_cons_zero, List.set_cons_succ])
  refine wlV (c := b5) (v := .pointer (some ⟨w.heap.size, 5, none⟩)) (by cases b5 <;> kernel_rfl) (by intro hc9; subst hc9; kernel_rfl) ?_
  (try simp only [Act.put, List.setIfInBounds_toArray, List.set_cons_zero, List.set_cons_succ])
  refine wlV (c := b5) (v := .int .i64 a5) (by cases b5 <;> kernel_rfl) (by intro hc9; subst hc9; go_simp) ?_
  (try simp only [Act.put, List.setIfInBounds_toArray, List.set_cons_zero, List.set_cons_succ])
  refine wlV (c := b5) (v := .pointer (some ⟨B2, 5, none⟩)) (by cases b5 <;> kernel_rfl) (by intro hc9; subst hc9; kernel_rfl) ?_
  (try simp only [Act.put, List.setIfInBounds_toArray, List.set_cons_zero, List.set_cons_succ])
  refine wlV (c := b5) (v := .int .i64 x5) (by cases b5 <;> kernel_rfl) (by intro hc9; subst hc9; go_simp) ?_
  (try simp only [Act.put, List.setIfInBounds_toArray, List.set_cons_zero, List.set_cons_succ])
  refine wlV (c := b5) (v := .bool (a5 == x5)) (by cases b5 <;> kernel_rfl) (by intro hc9; subst hc9; kernel_rfl) ?_
  (try simp only [Act.put, List.setIfInBounds_toArray, List.set_cons_zero, List.set_cons_succ])
  refine wlV1 (v := .bool (b5 && (a5 == x5))) (by kernel_rfl) (by cases b5 <;> kernel_rfl) ?_
  (try simp only [Act.put, List.setIfInBounds_toArray, List.set_cons_zero, List.set_cons_succ])
  obtain ⟨b6, hb6⟩ : ∃ x, (b5 && (a5 == x5)) = x := ⟨_, rfl⟩
  rw [hb6]
  refine wlV1 (v := .bool b6) (by kernel_rfl) (by kernel_rfl) ?_
  (try simp only [Act.put, List.setIfInBounds_toArray, List.set_cons_zero, List.set_cons_succ])
  refine wlV (c := b6) (v := .pointer (some ⟨w.heap.size, 6, none⟩)) (by cases b6 <;> kernel_rfl) (by intro hc9; subst hc9; kernel_rfl) ?_
  (try simp only [Act.put, List.setIfInBounds_toArray, List.set_cons_zero, List.set_cons_succ])
  refine wlV (c := b6) (v := .bool a6) (by cases b6 <;> kernel_rfl) (by intro hc9; subst hc9; go_simp) ?_
  (try simp only [Act.put, List.setIfInBounds_toArray, List.set_cons_zero, List.set_cons_succ])
  refine wlV (c := b6) (v := .pointer (some ⟨B2, 6, none⟩)) (by cases b6 <;> kernel_rfl) (by intro hc9; subst hc9; kernel_rfl) ?_
  (try simp only [Act.put, List.setIfInBounds_toArray, List.set_cons_zero, List.set_cons_succ])
  refine wlV (c := b6) (v := .bool x6) (by cases b6 <;> kernel_rfl) (by intro hc9; subst hc9; go_simp) ?_
  (try simp only [Act.put, List.setIfInBounds_toArray, List.set_cons_zero, List.set_cons_succ])
  refine wlV (c := b6) (v := .bool (a6 == x6)) (by cases b6 <;> kernel_rfl) (by intro hc9; subst hc9; cases a6 <;> cases x6 <;> kernel_rfl) ?_
  (try simp only [Act.put, List.setIfInBounds_toArray, List.set_cons_zero, List.set_cons_succ])
  refine wlV1 (v := .bool (b6 && (a6 == x6))) (by kernel_rfl) (by cases b6 <;> kernel_rfl) ?_
  (try simp only [Act.put, List.setIfInBounds_toArray, List.set_cons_zero, List.set_cons_succ])
  obtain ⟨b7, hb7⟩ : ∃ x, (b6 && (a6 == x6)) = x := ⟨_, rfl⟩
  rw [hb7]
  refine wlV1 (v := .bool b7) (by kernel_rfl) (by kernel_rfl) ?_
  (try simp only [Act.put, List.setIfInBounds_toArray, List.set_cons_zero, List.set_cons_succ])
  refine wlV (c := b7) (v := .pointer (some ⟨w.heap.size, 7, none⟩)) (by cases b7 <;> kernel_rfl) (by intro hc9; subst hc9; kernel_rfl) ?_
  (try simp only [Act.put, List.setIfInBounds_toArray, List.set_cons_zero, List.set_cons_succ])
  refine wlV (c := b7) (v := .int .i64 a7) (by cases b7 <;> kernel_rfl) (by intro hc9; subst hc9; go_simp) ?_
  (try simp only [Act.put, List.setIfInBounds_toArray, List.set_cons_zero, List.set_cons_succ])
  refine wlV (c := b7) (v := .pointer (some ⟨B2, 7, none⟩)) (by cases b7 <;> kernel_rfl) (by intro hc9; subst hc9; kernel_rfl) ?_
  (try simp only [Act.put, List.setIfInBounds_toArray, List.set_cons_zero, List.set_cons_succ])
  refine wlV (c := b7) (v := .int .i64 x7) (by cases b7 <;> kernel_rfl) (by intro hc9; subst hc9; go_simp) ?_
  (try simp only [Act.put, List.setIfInBounds_toArray, List.set_cons_zero, List.set_cons_succ])
  refine wlV (c := b7) (v := .bool (a7 == x7)) (by cases b7 <;> kernel_rfl) (by intro hc9; subst hc9; kernel_rfl) ?_
  (try simp only [Act.put, List.setIfInBounds_toArray, List.set_cons_zero, List.set_cons_succ])
  refine wlV1 (v := .bool (b7 && (a7 == x7))) (by kernel_rfl) (by cases b7 <;> kernel_rfl) ?_
  (try simp only [Act.put, List.setIfInBounds_toArray, List.set_cons_zero, List.set_cons_succ])
  obtain ⟨b8, hb8⟩ : ∃ x, (b7 && (a7 == x7)) = x := ⟨_, rfl⟩
  rw [hb8]
  refine wlV1 (v := .bool b8) (by kernel_rfl) (by kernel_rfl) ?_
  (try simp only [Act.put, List.setIfInBounds_toArray, List.set_cons_zero, List.set_cons_succ])
  refine wlV (c := b8) (v := .pointer (some ⟨w.heap.size, 8, none⟩)) (by cases b8 <;> kernel_rfl) (by intro hc9; subst hc9; kernel_rfl) ?_
  (try simp only [Act.put, List.setIfInBounds_toArray, List.set_cons_zero, List.set_cons_succ])
  refine wlV (c := b8) (v := .int .i64 a8) (by cases b8 <;> kernel_rfl) (by intro hc9; subst hc9; go_simp) ?_
  (try simp only [Act.put, List.setIfInBounds_toArray, List.set_cons_zero, List.set_cons_succ])
  refine wlV (c := b8) (v := .pointer (some ⟨B2, 8, none⟩)) (by cases b8 <;> kernel_rfl) (by intro hc9; subst hc9; kernel_rfl) ?_
  (try simp only [Act.put, List.setIfInBounds_toArray, List.set_cons_zero, List.set_cons_succ])
  refine wlV (c := b8) (v := .int .i64 x8) (by cases b8 <;> kernel_rfl) (by intro hc9; subst hc9; go_simp) ?_
  (try simp only [Act.put, List.setIfInBounds_toArray, List.set_cons_zero, List.set_cons_succ])
  refine wlV (c := b8) (v := .bool (a8 == x8)) (by cases b8 <;> kernel_rfl) (by intro hc9; subst hc9; kernel_rfl) ?_
  (try simp only [Act.put, List.setIfInBounds_toArray, List.set_cons_zero, List.set_cons_succ])
  refine wlV1 (v := .bool (b8 && (a8 == x8))) (by kernel_rfl) (by cases b8 <;> kernel_rfl) ?_
  (try simp only [Act.put, List.setIfInBounds_toArray, List.set_cons_zero, List.set_cons_succ])
  obtain ⟨b9, hb9⟩ : ∃ x, (b8 && (a8 == x8)) = x := ⟨_, rfl⟩
  rw [hb9]
  refine wlV1 (v := .bool b9) (by kernel_rfl) (by kernel_rfl) ?_
  (try simp only [Act.put, List.setIfInBounds_toArray, List.set_cons_zero, List.set_cons_succ])
  refine wlV (c := b9) (v := .pointer (some ⟨w.heap.size, 9, none⟩)) (by cases b9 <;> kernel_rfl) (by intro hc9; subst hc9; kernel_rfl) ?_
  (try simp only [Act.put, List.setIfInBounds_toArray, List.set_cons_zero, List.set_cons_succ])
  refine wlV (c := b9) (v := .int .i64 a9) (by cases b9 <;> kernel_rfl) (by intro hc9; subst hc9; go_simp) ?_
  (try simp only [Act.put, List.setIfInBounds_toArray, List.set_cons_zero, List.set_cons_succ])
  refine wlV (c := b9) (v := .pointer (some ⟨B2, 9, none⟩)) (by cases b9 <;> kernel_rfl) (by intro hc9; subst hc9; kernel_rfl) ?_
  (try simp only [Act.put, List.setIfInBounds_toArray, List.set_cons_zero, List.set_cons_succ])
  refine wlV (c := b9) (v := .int .i64 x9) (by cases b9 <;> kernel_rfl) (by intro hc9; subst hc9; go_simp) ?_
  (try simp only [Act.put, List.setIfInBounds_toArray, List.set_cons_zero, List.set_cons_succ])
  refine wlV (c := b9) (v := .bool (a9 == x9)) (by cases b9 <;> kernel_rfl) (by intro hc9; subst hc9; kernel_rfl) ?_
  (try simp only [Act.put, List.setIfInBounds_toArray, List.set_cons_zero, List.set_cons_succ])
  refine wlV1 (v := .bool (b9 && (a9 == x9))) (by kernel_rfl) (by cases b9 <;> kernel_rfl) ?_
  (try simp only [Act.put, List.setIfInBounds_toArray, List.set_cons_zero, List.set_cons_succ])
  obtain ⟨b10, hb10⟩ : ∃ x, (b9 && (a9 == x9)) = x := ⟨_, rfl⟩
  rw [hb10]
  refine wlV1 (v := .bool b10) (by kernel_rfl) (by kernel_rfl) ?_
  (try simp only [Act.put, List.setIfInBounds_toArray, List.set_cons_zero, List.set_cons_succ])
  refine wlV (c := b10) (v := .pointer (some ⟨w.heap.size, 10, none⟩)) (by cases b10 <;> kernel_rfl) (by intro hc9; subst hc9; kernel_rfl) ?_
  (try simp only [Act.put, List.setIfInBounds_toArray, List.set_cons_zero, List.set_cons_succ])
  refine wlV (c := b10) (v := .int .i64 a10) (by cases b10 <;> kernel_rfl) (by intro hc9; subst hc9; go_simp) ?_
  (try simp only [Act.put, List.setIfInBounds_toArray, List.set_cons_zero, List.set_cons_succ])
  refine wlV (c := b10) (v := .pointer (some ⟨B2, 10, none⟩)) (by cases b10 <;> kernel_rfl) (by intro hc9; subst hc9; kernel_rfl) ?_
  (try simp only [Act.put, List.setIfInBounds_toArray, List.set_cons_zero, List.set_cons_succ])
  refine wlV (c := b10) (v := .int .i64 x10) (by cases b10 <;> kernel_rfl) (by intro hc9; subst hc9; go_simp) ?_
  (try simp only [Act.put, List.setIfInBounds_toArray, List.set_cons_zero, List.set_cons_succ])
  refine wlV (c := b10) (v := .bool (a10 == x10)) (by cases b10 <;> kernel_rfl) (by intro hc9; subst hc9; kernel_rfl) ?_
  (try simp only [Act.put, List.setIfInBounds_toArray, List.set_cons_zero, List.set_cons_succ])
  refine wlV1 (v := .bool (b10 && (a10 == x10))) (by kernel_rfl) (by cases b10 <;> kernel_rfl) ?_
  (try simp only [Act.put, List.setIfInBounds_toArray, List.set_cons_zero, List.set_cons_succ])
  obtain ⟨b11, hb11⟩ : ∃ x, (b10 && (a10 == x10)) = x := ⟨_, rfl⟩
  rw [hb11]
  refine wlV1 (v := .bool b11) (by kernel_rfl) (by kernel_rfl) ?_
  (try simp only [Act.put, List.setIfInBounds_toArray, List.set_cons_zero, List.set_cons_succ])
  refine wpList_nil ?_
  refine hK _ _ ?_
  go_wp2
  go_ret
  refine ⟨?_, hbw⟩
  rw [← hb11, ← hb10, ← hb9, ← hb8, ← hb7, ← hb6, ← hb5, ← hb4, ← hb3, ← hb2, ← hb1]
  rfl
end Go.Proofs.YtjofegjiakjjhaaDoor
/- Script, the program: put, at a number. -/
namespace Go.Proofs.YtjofegjiakjjhaaDoor
open Go.RowKit Go.Lib Mf

theorem Env.size {w : World} (h : Env w) : 8 ≤ w.heap.size := by
  have : (⟨7, 15, none⟩ : Addr).block < w.heap.size := World.block_lt_of_cell? _ _ h.tz
  exact this
theorem Env.only {S : Nat → Prop} {w w' : World} (h : Env w) (ho : Only S w w') (hS : ∀ k, k < 8 → ¬ S k) : Env w' := by
  have hsz := h.size
  obtain ⟨⟨m, h1⟩, ⟨te, pe, h2⟩, ⟨te', pe', h3⟩, h4, h5⟩ := h
  have key : ∀ (p : Addr) v, p.block < 8 → w.cell? p = some v → w'.cell? p = some v := fun p v hp hc => (ho.cell (by omega) (hS _ hp)).trans hc
  refine ⟨⟨m, key _ _ (by decide) h1⟩, ⟨te, pe, key _ _ (by decide) h2⟩, ⟨te', pe', key _ _ (by decide) h3⟩, ?_, key _ _ (by decide) h5⟩
  have hg : Tryd.prog.globalNamed "internal/strconv.uint64pow10" = some 3 := by kernel_rfl
  unfold TabIs World.var? at h4 ⊢
  rw [hg] at h4 ⊢
  simp only [Option.bind_some] at h4 ⊢
  rw [ho.block 3 (by omega) (hS _ (by decide))]
  exact h4
def PutIs (s o : St) (c : Fd) (d : Nat) (G : Value) (w : World) (e : Ending) (w' : World) : Prop := ∃ x ok, e = .returned (.tuple #[bv x, .bool ok]) ∧ wrd s c = (if ok then some x else none) ∧ Blk w' d 25 (stC (put1 s o c) G) ∧ Only (fun g => g = d) w w'
set_option maxRecDepth 20000 in
set_option maxHeartbeats 8000000 in
theorem lput_num (s o : St) (c : Fd) {k : Nat} {n : Int} (hk : offF c = some k) (hn : i64ok n) (F : Value) (hcs : (stC s F)[k]? = some (.int .i64 n)) (hD : wrd s c = decW n) (d : Nat) (hd8 : 8 ≤ d) (G : Value) (hP : stC (put1 s o c) G = (stC o G).setIfInBounds k (.int .i64 n)) (hk12 : k < 12)
    {w : World} (he : Env w) (hb : Blk w d 25 (stC o G)) :
    Calls Tryd.prog 25 #[.agg (stC s F), .int .u8 ((pcd c).toNat : Int), .pointer (some ⟨d, 0, none⟩)] w (PutIs s o c d G w) := by
  obtain ⟨z, hz⟩ : ∃ z : Int, ((pcd c).toNat : Int) = z := ⟨_, rfl⟩
  have HNm := Lib.hid (fun b w => (show Calls Tryd.prog 42 #[.pointer (some ⟨b, 0, none⟩), .int .u8 z] w fun e w' => e = .returned (.pointer (some ⟨b, k, none⟩)) ∧ w = w' from by
    have := lnumber b c w
    rw [hk, hz] at this
    exact this))
  rw [hz]
  have hbx := (Below.refl w.heap.size w).alloc (Nat.le_refl _) (.cells (stC s F) 25)
  have HS := Lib.hid (Blk.new w 25 (stC s F))
  have HCS := Lib.hid hcs
  have HB := Lib.hid (hb.below hbx hb.lt)
  have HE := Lib.hid (he.below hbx)
  have HO := Lib.hid (show Only (fun g => g = d) w _ from only_fresh hbx)
  have hdc := decW_cases n
  have HDL := Lib.hid (show d ≠ w.heap.size ∧ 8 ≤ d from ⟨by have := hb.lt; omega, hd8⟩)
  obtain ⟨x, hx⟩ : ∃ x, (stC o G)[k]? = some x := ⟨_, Array.getElem?_eq_getElem (by show k < 12; exact hk12)⟩
  have HX := Lib.hid hx
  unfold PutIs
  rw [hP, hD]
  clear hz hk hcs hb he hbx hx hP hD hd8 hk12
  obtain ⟨oc, hoc⟩ : ∃ oc, stC o G = oc := ⟨_, rfl⟩
  rw [hoc] at HB HX ⊢
  clear hoc
  obtain ⟨sc, hsc⟩ : ∃ sc, stC s F = sc := ⟨_, rfl⟩
  rw [hsc] at HS HCS HB HE HO ⊢
  clear hsc
  go_enter Tryd.func25, Tryd.ntmps25
  go_upto_region 1 with fail
  generalize w.alloc (.cells sc 25) = w1 at *
  go_wp2_with fail
  refine (HNm.out _ _).mono ?_; rintro e _ ⟨rfl, rfl⟩
  go_upto_region 3 with fail
  refine wp_region_held_drew (S := (fun w' => w'.cell? ⟨w.heap.size, k, none⟩ = some (.int .i64 n))) (by kernel_rfl) ?_ (fun hHeld => ?_)
  · exact (HS.out.cell k).trans HCS.out
  replace HB := Lib.hid (show Blk w1.drew d 25 _ from HB.out)
  replace HS := Lib.hid (show Blk w1.drew w.heap.size 25 _ from HS.out)
  replace HE := Lib.hid (HE.out.below (Below.refl _ _).drew)
  replace HO := Lib.hid (HO.out.drew)
  generalize w1.drew = wc at *
  have hxc := (HB.out.cell k).trans HX.out
  have hxf := HB.out.frozen k
  ((refine takeY 0 (v := ?_) rfl (by kernel_rfl) (by kernel_rfl) (by kernel_rfl) (fun _ _ _ h => h) (by rfl) (by assumption) ?_ ?_; rotate_left; · (intro w hSw; (try dsimp only at hSw); go_simp; (first | done | with_reducible rfl))))
  (try simp only [Act.put, List.setIfInBounds_toArray, List.set_cons_zero, List.set_cons_succ])
  ((refine takeY 1 (v := ?_) rfl (by kernel_rfl) (by kernel_rfl) (by kernel_rfl) (fun _ _ _ h => h) (by rfl) (by assumption) ?_ ?_; rotate_left; · (intro w hSw; (try dsimp only at hSw); go_simp; (first | done | with_reducible rfl))))
  (try simp only [Act.put, List.setIfInBounds_toArray, List.set_cons_zero, List.set_cons_succ])
  ((refine takeY 3 (v := ?_) rfl (by kernel_rfl) (by kernel_rfl) (by kernel_rfl) (fun _ _ _ h => h) (by rfl) (by assumption) ?_ ?_; rotate_left; · (intro w hSw; (try dsimp only at hSw); go_simp; (first | done | with_reducible rfl))))
  (try simp only [Act.put, List.setIfInBounds_toArray, List.set_cons_zero, List.set_cons_succ])
  ((refine takeY 4 (v := ?_) rfl (by kernel_rfl) (by kernel_rfl) (by kernel_rfl) (fun _ _ _ h => h) (by rfl) (by assumption) ?_ ?_; rotate_left; · (intro w hSw; (try dsimp only at hSw); go_simp; (first | done | with_reducible rfl))))
  (try simp only [Act.put, List.setIfInBounds_toArray, List.set_cons_zero, List.set_cons_succ])
  ((refine takeY 5 (v := ?_) rfl (by kernel_rfl) (by kernel_rfl) (by kernel_rfl) (fun _ _ _ h => h) (by rfl) (by assumption) ?_ ?_; rotate_left; · (intro w hSw; (try dsimp only at hSw); go_simp; (first | done | with_reducible rfl))))
  (try simp only [Act.put, List.setIfInBounds_toArray, List.set_cons_zero, List.set_cons_succ])
  refine stepH 2 rfl (by kernel_rfl) (by rfl) (fun K hK => ?_)
  go_simp
  refine (HNm.out _ _).mono ?_; rintro e _ ⟨rfl, rfl⟩
  (refine hK.out _ _ hHeld (fun hHeld => ?_))
  clear hK K
  ((refine takeY 6 (v := ?_) rfl (by kernel_rfl) (by kernel_rfl) (by kernel_rfl) (fun _ _ _ h => h) (by rfl) (by assumption) ?_ ?_; rotate_left; · (intro w hSw; (try dsimp only at hSw); go_simp; (first | done | with_reducible rfl))))
  (try simp only [Act.put, List.setIfInBounds_toArray, List.set_cons_zero, List.set_cons_succ])
  refine stepH 7 rfl (by kernel_rfl) (by rfl) (fun K hK => ?_)
  go_simp
  clear hxc hxf
  replace HS := Lib.hid (HS.out.far (p := ⟨d, k, none⟩) (fun e => HDL.out.1 e.symm) (.int .i64 n))
  replace HB := Lib.hid (HB.out.set_ k (.int .i64 n))
  replace HE := Lib.hid (HE.out.only (Only.setCell (S := fun g => g = d) (Only.refl _ wc) (p := ⟨d, k, none⟩) (.inl rfl) (.int .i64 n)) (fun g hg e => by have := HDL.out.2; omega))
  replace HO := Lib.hid (HO.out.setCell (p := ⟨d, k, none⟩) (.inl rfl) (.int .i64 n))
  (refine hK.out _ _ ?_ (fun hHeld => ?_))
  · exact (HS.out.cell k).trans HCS.out
  clear hK K
  refine wpAnyH_done (by kernel_rfl) ?_ _
  clear hHeld
  generalize wc.setCell ⟨d, k, none⟩ (.int .i64 n) = w4 at *
  rcases hdc with ⟨q1, q2, e9⟩ | ⟨q1, q2, e9⟩ | ⟨q1, e9⟩
  · have HD := Lib.hid e9
    have q3 : decide (n ≤ 2147483647) = true := by simp at q2 ⊢; omega
    clear e9
    go_upto_region 4 with fail
    refine wp_region_held_drew (S := (fun w' => w'.cell? ⟨w.heap.size, k, none⟩ = some (.int .i64 n))) (by kernel_rfl) ?_ (fun hHeld => ?_)
    · exact (HS.out.cell k).trans HCS.out
    replace HB := Lib.hid (show Blk w4.drew d 25 _ from HB.out)
    replace HS := Lib.hid (show Blk w4.drew w.heap.size 25 _ from HS.out)
    replace HE := Lib.hid (HE.out.below (Below.refl _ _).drew)
    replace HO := Lib.hid (HO.out.drew)
    generalize w4.drew = wd at *
    ((refine takeY 0 (v := ?_) rfl (by kernel_rfl) (by kernel_rfl) (by kernel_rfl) (fun _ _ _ h => h) (by rfl) (by assumption) ?_ ?_; rotate_left; · (intro w hSw; (try dsimp only at hSw); go_simp; (first | done | with_reducible rfl))))
    (try simp only [Act.put, List.setIfInBounds_toArray, List.set_cons_zero, List.set_cons_succ])
    ((refine takeY 1 (v := ?_) rfl (by kernel_rfl) (by kernel_rfl) (by kernel_rfl) (fun _ _ _ h => h) (by rfl) (by assumption) ?_ ?_; rotate_left; · (intro w hSw; (try dsimp only at hSw); go_simp; (first | done | with_reducible rfl))))
    (try simp only [Act.put, List.setIfInBounds_toArray, List.set_cons_zero, List.set_cons_succ])
    ((refine takeY 2 (v := ?_) rfl (by kernel_rfl) (by kernel_rfl) (by kernel_rfl) (fun _ _ _ h => h) (by rfl) (by assumption) ?_ ?_; rotate_left; · (intro w hSw; (try dsimp only at hSw); go_simp; (first | done | with_reducible rfl))))
    (try simp only [Act.put, List.setIfInBounds_toArray, List.set_cons_zero, List.set_cons_succ])
    ((refine takeY 4 (v := ?_) rfl (by kernel_rfl) (by kernel_rfl) (by kernel_rfl) (fun _ _ _ h => h) (by rfl) (by assumption) ?_ ?_; rotate_left; · (intro w hSw; (try dsimp only at hSw); go_simp; (first | done | with_reducible rfl))))
    (try simp only [Act.put, List.setIfInBounds_toArray, List.set_cons_zero, List.set_cons_succ])
    ((refine takeY 5 (v := ?_) rfl (by kernel_rfl) (by kernel_rfl) (by kernel_rfl) (fun _ _ _ h => h) (by rfl) (by assumption) ?_ ?_; rotate_left; · (intro w hSw; (try dsimp only at hSw); go_simp; (first | done | with_reducible rfl))))
    (try simp only [Act.put, List.setIfInBounds_toArray, List.set_cons_zero, List.set_cons_succ])
    ((refine takeY 6 (v := ?_) rfl (by kernel_rfl) (by kernel_rfl) (by kernel_rfl) (fun _ _ _ h => h) (by rfl) (by assumption) ?_ ?_; rotate_left; · (intro w hSw; (try dsimp only at hSw); go_simp; (first | done | with_reducible rfl))))
    (try simp only [Act.put, List.setIfInBounds_toArray, List.set_cons_zero, List.set_cons_succ])
    ((refine takeY 7 (v := ?_) rfl (by kernel_rfl) (by kernel_rfl) (by kernel_rfl) (fun _ _ _ h => h) (by rfl) (by assumption) ?_ ?_; rotate_left; · (intro w hSw; (try dsimp only at hSw); go_simp; (first | done | with_reducible rfl))))
    (try simp only [Act.put, List.setIfInBounds_toArray, List.set_cons_zero, List.set_cons_succ])
    refine stepH 3 rfl (by kernel_rfl) (by rfl) (fun K hK => ?_)
    go_simp
    refine (litoa n hn HE.out).mono ?_; rintro e wn ⟨rfl, hb⟩
    replace HB := Lib.hid (HB.out.below hb HB.out.lt)
    replace HS := Lib.hid (HS.out.below hb HS.out.lt)
    replace HE := Lib.hid (HE.out.below hb)
    replace HO := Lib.hid (HO.out.new hb)
    clear hb
    (refine hK.out _ _ ?_ (fun hHeld => ?_))
    · exact (HS.out.cell k).trans HCS.out
    clear hK K
    obtain ⟨wd, rfl⟩ : ∃ x : World, x = wn := ⟨_, rfl⟩
    ((refine takeY 8 (v := ?_) rfl (by kernel_rfl) (by kernel_rfl) (by kernel_rfl) (fun _ _ _ h => h) (by rfl) (by assumption) ?_ ?_; rotate_left; · (intro w hSw; (try dsimp only at hSw); go_simp; (first | done | with_reducible rfl))))
    (try simp only [Act.put, List.setIfInBounds_toArray, List.set_cons_zero, List.set_cons_succ])
    (first | (refine takeN 9 rfl (by kernel_rfl) (by kernel_rfl) (by kernel_rfl) (fun _ _ _ h => h) (by rfl) (by assumption) ?_) | (refine takeY 9 (v := ?_) rfl (by kernel_rfl) (by kernel_rfl) (by kernel_rfl) (fun _ _ _ h => h) (by rfl) (by assumption) ?_ ?_; rotate_left; · (intro w hSw; (try dsimp only at hSw); go_simp; (first | done | with_reducible rfl))))
    (try simp only [Act.put, List.setIfInBounds_toArray, List.set_cons_zero, List.set_cons_succ])
    (first | (refine takeN 10 rfl (by kernel_rfl) (by kernel_rfl) (by kernel_rfl) (fun _ _ _ h => h) (by rfl) (by assumption) ?_) | (refine takeY 10 (v := ?_) rfl (by kernel_rfl) (by kernel_rfl) (by kernel_rfl) (fun _ _ _ h => h) (by rfl) (by assumption) ?_ ?_; rotate_left; · (intro w hSw; (try dsimp only at hSw); go_simp; (first | done | with_reducible rfl))))
    (try simp only [Act.put, List.setIfInBounds_toArray, List.set_cons_zero, List.set_cons_succ])
    (first | (refine takeN 11 rfl (by kernel_rfl) (by kernel_rfl) (by kernel_rfl) (fun _ _ _ h => h) (by rfl) (by assumption) ?_) | (refine takeY 11 (v := ?_) rfl (by kernel_rfl) (by kernel_rfl) (by kernel_rfl) (fun _ _ _ h => h) (by rfl) (by assumption) ?_ ?_; rotate_left; · (intro w hSw; (try dsimp only at hSw); go_simp; (first | done | with_reducible rfl))))
    (try simp only [Act.put, List.setIfInBounds_toArray, List.set_cons_zero, List.set_cons_succ])
    (first | (refine takeN 12 rfl (by kernel_rfl) (by kernel_rfl) (by kernel_rfl) (fun _ _ _ h => h) (by rfl) (by assumption) ?_) | (refine takeY 12 (v := ?_) rfl (by kernel_rfl) (by kernel_rfl) (by kernel_rfl) (fun _ _ _ h => h) (by rfl) (by assumption) ?_ ?_; rotate_left; · (intro w hSw; (try dsimp only at hSw); go_simp; (first | done | with_reducible rfl))))
    (try simp only [Act.put, List.setIfInBounds_toArray, List.set_cons_zero, List.set_cons_succ])
    ((refine takeY 13 (v := ?_) rfl (by kernel_rfl) (by kernel_rfl) (by kernel_rfl) (fun _ _ _ h => h) (by rfl) (by assumption) ?_ ?_; rotate_left; · (intro w hSw; (try dsimp only at hSw); go_simp; (first | done | with_reducible rfl))))
    (try simp only [Act.put, List.setIfInBounds_toArray, List.set_cons_zero, List.set_cons_succ])
    ((refine takeY 14 (v := ?_) rfl (by kernel_rfl) (by kernel_rfl) (by kernel_rfl) (fun _ _ _ h => h) (by rfl) (by assumption) ?_ ?_; rotate_left; · (intro w hSw; (try dsimp only at hSw); go_simp; (first | done | with_reducible rfl))))
    (try simp only [Act.put, List.setIfInBounds_toArray, List.set_cons_zero, List.set_cons_succ])
    ((refine takeY 15 (v := ?_) rfl (by kernel_rfl) (by kernel_rfl) (by kernel_rfl) (fun _ _ _ h => h) (by rfl) (by assumption) ?_ ?_; rotate_left; · (intro w hSw; (try dsimp only at hSw); go_simp; (first | done | with_reducible rfl))))
    (try simp only [Act.put, List.setIfInBounds_toArray, List.set_cons_zero, List.set_cons_succ])
    refine wpAnyH_done (by kernel_rfl) ?_ _
    clear hHeld
    go_wp2
    go_ret2
    exact ⟨_, true, rfl, HD.out, HB.out, HO.out⟩
  · have HD := Lib.hid e9
    have q3 : decide (n ≤ 2147483647) = false := by simp at q2 ⊢; omega
    clear e9
    go_upto_region 4 with fail
    refine wp_region_held_drew (S := (fun w' => w'.cell? ⟨w.heap.size, k, none⟩ = some (.int .i64 n))) (by kernel_rfl) ?_ (fun hHeld => ?_)
    · exact (HS.out.cell k).trans HCS.out
    replace HB := Lib.hid (show Blk w4.drew d 25 _ from HB.out)
    replace HS := Lib.hid (show Blk w4.drew w.heap.size 25 _ from HS.out)
    replace HE := Lib.hid (HE.out.below (Below.refl _ _).drew)
    replace HO := Lib.hid (HO.out.drew)
    generalize w4.drew = wd at *
    ((refine takeY 0 (v := ?_) rfl (by kernel_rfl) (by kernel_rfl) (by kernel_rfl) (fun _ _ _ h => h) (by rfl) (by assumption) ?_ ?_; rotate_left; · (intro w hSw; (try dsimp only at hSw); go_simp; (first | done | with_reducible rfl))))
    (try simp only [Act.put, List.setIfInBounds_toArray, List.set_cons_zero, List.set_cons_succ])
    ((refine takeY 1 (v := ?_) rfl (by kernel_rfl) (by kernel_rfl) (by kernel_rfl) (fun _ _ _ h => h) (by rfl) (by assumption) ?_ ?_; rotate_left; · (intro w hSw; (try dsimp only at hSw); go_simp; (first | done | with_reducible rfl))))
    (try simp only [Act.put, List.setIfInBounds_toArray, List.set_cons_zero, List.set_cons_succ])
    ((refine takeY 2 (v := ?_) rfl (by kernel_rfl) (by kernel_rfl) (by kernel_rfl) (fun _ _ _ h => h) (by rfl) (by assumption) ?_ ?_; rotate_left; · (intro w hSw; (try dsimp only at hSw); go_simp; (first | done | with_reducible rfl))))
    (try simp only [Act.put, List.setIfInBounds_toArray, List.set_cons_zero, List.set_cons_succ])
    ((refine takeY 4 (v := ?_) rfl (by kernel_rfl) (by kernel_rfl) (by kernel_rfl) (fun _ _ _ h => h) (by rfl) (by assumption) ?_ ?_; rotate_left; · (intro w hSw; (try dsimp only at hSw); go_simp; (first | done | with_reducible rfl))))
    (try simp only [Act.put, List.setIfInBounds_toArray, List.set_cons_zero, List.set_cons_succ])
    ((refine takeY 5 (v := ?_) rfl (by kernel_rfl) (by kernel_rfl) (by kernel_rfl) (fun _ _ _ h => h) (by rfl) (by assumption) ?_ ?_; rotate_left; · (intro w hSw; (try dsimp only at hSw); go_simp; (first | done | with_reducible rfl))))
    (try simp only [Act.put, List.setIfInBounds_toArray, List.set_cons_zero, List.set_cons_succ])
    ((refine takeY 6 (v := ?_) rfl (by kernel_rfl) (by kernel_rfl) (by kernel_rfl) (fun _ _ _ h => h) (by rfl) (by assumption) ?_ ?_; rotate_left; · (intro w hSw; (try dsimp only at hSw); go_simp; (first | done | with_reducible rfl))))
    (try simp only [Act.put, List.setIfInBounds_toArray, List.set_cons_zero, List.set_cons_succ])
    ((refine takeY 7 (v := ?_) rfl (by kernel_rfl) (by kernel_rfl) (by kernel_rfl) (fun _ _ _ h => h) (by rfl) (by assumption) ?_ ?_; rotate_left; · (intro w hSw; (try dsimp only at hSw); go_simp; (first | done | with_reducible rfl))))
    (try simp only [Act.put, List.setIfInBounds_toArray, List.set_cons_zero, List.set_cons_succ])
    refine stepH 3 rfl (by kernel_rfl) (by rfl) (fun K hK => ?_)
    go_simp
    refine (litoa n hn HE.out).mono ?_; rintro e wn ⟨rfl, hb⟩
    replace HB := Lib.hid (HB.out.below hb HB.out.lt)
    replace HS := Lib.hid (HS.out.below hb HS.out.lt)
    replace HE := Lib.hid (HE.out.below hb)
    replace HO := Lib.hid (HO.out.new hb)
    clear hb
    (refine hK.out _ _ ?_ (fun hHeld => ?_))
    · exact (HS.out.cell k).trans HCS.out
    clear hK K
    obtain ⟨wd, rfl⟩ : ∃ x : World, x = wn := ⟨_, rfl⟩
    ((refine takeY 8 (v := ?_) rfl (by kernel_rfl) (by kernel_rfl) (by kernel_rfl) (fun _ _ _ h => h) (by rfl) (by assumption) ?_ ?_; rotate_left; · (intro w hSw; (try dsimp only at hSw); go_simp; (first | done | with_reducible rfl))))
    (try simp only [Act.put, List.setIfInBounds_toArray, List.set_cons_zero, List.set_cons_succ])
    (first | (refine takeN 9 rfl (by kernel_rfl) (by kernel_rfl) (by kernel_rfl) (fun _ _ _ h => h) (by rfl) (by assumption) ?_) | (refine takeY 9 (v := ?_) rfl (by kernel_rfl) (by kernel_rfl) (by kernel_rfl) (fun _ _ _ h => h) (by rfl) (by assumption) ?_ ?_; rotate_left; · (intro w hSw; (try dsimp only at hSw); go_simp; (first | done | with_reducible rfl))))
    (try simp only [Act.put, List.setIfInBounds_toArray, List.set_cons_zero, List.set_cons_succ])
    (first | (refine takeN 10 rfl (by kernel_rfl) (by kernel_rfl) (by kernel_rfl) (fun _ _ _ h => h) (by rfl) (by assumption) ?_) | (refine takeY 10 (v := ?_) rfl (by kernel_rfl) (by kernel_rfl) (by kernel_rfl) (fun _ _ _ h => h) (by rfl) (by assumption) ?_ ?_; rotate_left; · (intro w hSw; (try dsimp only at hSw); go_simp; (first | done | with_reducible rfl))))
    (try simp only [Act.put, List.setIfInBounds_toArray, List.set_cons_zero, List.set_cons_succ])
    (first | (refine takeN 11 rfl (by kernel_rfl) (by kernel_rfl) (by kernel_rfl) (fun _ _ _ h => h) (by rfl) (by assumption) ?_) | (refine takeY 11 (v := ?_) rfl (by kernel_rfl) (by kernel_rfl) (by kernel_rfl) (fun _ _ _ h => h) (by rfl) (by assumption) ?_ ?_; rotate_left; · (intro w hSw; (try dsimp only at hSw); go_simp; (first | done | with_reducible rfl))))
    (try simp only [Act.put, List.setIfInBounds_toArray, List.set_cons_zero, List.set_cons_succ])
    (first | (refine takeN 12 rfl (by kernel_rfl) (by kernel_rfl) (by kernel_rfl) (fun _ _ _ h => h) (by rfl) (by assumption) ?_) | (refine takeY 12 (v := ?_) rfl (by kernel_rfl) (by kernel_rfl) (by kernel_rfl) (fun _ _ _ h => h) (by rfl) (by assumption) ?_ ?_; rotate_left; · (intro w hSw; (try dsimp only at hSw); go_simp; (first | done | with_reducible rfl))))
    (try simp only [Act.put, List.setIfInBounds_toArray, List.set_cons_zero, List.set_cons_succ])
    ((refine takeY 13 (v := ?_) rfl (by kernel_rfl) (by kernel_rfl) (by kernel_rfl) (fun _ _ _ h => h) (by rfl) (by assumption) ?_ ?_; rotate_left; · (intro w hSw; (try dsimp only at hSw); go_simp; (first | done | with_reducible rfl))))
    (try simp only [Act.put, List.setIfInBounds_toArray, List.set_cons_zero, List.set_cons_succ])
    ((refine takeY 14 (v := ?_) rfl (by kernel_rfl) (by kernel_rfl) (by kernel_rfl) (fun _ _ _ h => h) (by rfl) (by assumption) ?_ ?_; rotate_left; · (intro w hSw; (try dsimp only at hSw); go_simp; (first | done | with_reducible rfl))))
    (try simp only [Act.put, List.setIfInBounds_toArray, List.set_cons_zero, List.set_cons_succ])
    ((refine takeY 15 (v := ?_) rfl (by kernel_rfl) (by kernel_rfl) (by kernel_rfl) (fun _ _ _ h => h) (by rfl) (by assumption) ?_ ?_; rotate_left; · (intro w hSw; (try dsimp only at hSw); go_simp; (first | done | with_reducible rfl))))
    (try simp only [Act.put, List.setIfInBounds_toArray, List.set_cons_zero, List.set_cons_succ])
    refine wpAnyH_done (by kernel_rfl) ?_ _
    clear hHeld
    go_wp2
    go_ret2
    exact ⟨_, false, rfl, HD.out, HB.out, HO.out⟩
  · have HD := Lib.hid e9
    clear e9
    go_upto_region 4 with fail
    refine wp_region_held_drew (S := (fun w' => w'.cell? ⟨w.heap.size, k, none⟩ = some (.int .i64 n))) (by kernel_rfl) ?_ (fun hHeld => ?_)
    · exact (HS.out.cell k).trans HCS.out
    replace HB := Lib.hid (show Blk w4.drew d 25 _ from HB.out)
    replace HS := Lib.hid (show Blk w4.drew w.heap.size 25 _ from HS.out)
    replace HE := Lib.hid (HE.out.below (Below.refl _ _).drew)
    replace HO := Lib.hid (HO.out.drew)
    generalize w4.drew = wd at *
    ((refine takeY 0 (v := ?_) rfl (by kernel_rfl) (by kernel_rfl) (by kernel_rfl) (fun _ _ _ h => h) (by rfl) (by assumption) ?_ ?_; rotate_left; · (intro w hSw; (try dsimp only at hSw); go_simp; (first | done | with_reducible rfl))))
    (try simp only [Act.put, List.setIfInBounds_toArray, List.set_cons_zero, List.set_cons_succ])
    ((refine takeY 1 (v := ?_) rfl (by kernel_rfl) (by kernel_rfl) (by kernel_rfl) (fun _ _ _ h => h) (by rfl) (by assumption) ?_ ?_; rotate_left; · (intro w hSw; (try dsimp only at hSw); go_simp; (first | done | with_reducible rfl))))
    (try simp only [Act.put, List.setIfInBounds_toArray, List.set_cons_zero, List.set_cons_succ])
    ((refine takeY 2 (v := ?_) rfl (by kernel_rfl) (by kernel_rfl) (by kernel_rfl) (fun _ _ _ h => h) (by rfl) (by assumption) ?_ ?_; rotate_left; · (intro w hSw; (try dsimp only at hSw); go_simp; (first | done | with_reducible rfl))))
    (try simp only [Act.put, List.setIfInBounds_toArray, List.set_cons_zero, List.set_cons_succ])
    ((refine takeY 4 (v := ?_) rfl (by kernel_rfl) (by kernel_rfl) (by kernel_rfl) (fun _ _ _ h => h) (by rfl) (by assumption) ?_ ?_; rotate_left; · (intro w hSw; (try dsimp only at hSw); go_simp; (first | done | with_reducible rfl))))
    (try simp only [Act.put, List.setIfInBounds_toArray, List.set_cons_zero, List.set_cons_succ])
    ((refine takeY 5 (v := ?_) rfl (by kernel_rfl) (by kernel_rfl) (by kernel_rfl) (fun _ _ _ h => h) (by rfl) (by assumption) ?_ ?_; rotate_left; · (intro w hSw; (try dsimp only at hSw); go_simp; (first | done | with_reducible rfl))))
    (try simp only [Act.put, List.setIfInBounds_toArray, List.set_cons_zero, List.set_cons_succ])
    ((refine takeY 6 (v := ?_) rfl (by kernel_rfl) (by kernel_rfl) (by kernel_rfl) (fun _ _ _ h => h) (by rfl) (by assumption) ?_ ?_; rotate_left; · (intro w hSw; (try dsimp only at hSw); go_simp; (first | done | with_reducible rfl))))
    (try simp only [Act.put, List.setIfInBounds_toArray, List.set_cons_zero, List.set_cons_succ])
    ((refine takeY 7 (v := ?_) rfl (by kernel_rfl) (by kernel_rfl) (by kernel_rfl) (fun _ _ _ h => h) (by rfl) (by assumption) ?_ ?_; rotate_left; · (intro w hSw; (try dsimp only at hSw); go_simp; (first | done | with_reducible rfl))))
    (try simp only [Act.put, List.setIfInBounds_toArray, List.set_cons_zero, List.set_cons_succ])
    refine stepH 3 rfl (by kernel_rfl) (by rfl) (fun K hK => ?_)
    go_simp
    refine (litoa n hn HE.out).mono ?_; rintro e wn ⟨rfl, hb⟩
    replace HB := Lib.hid (HB.out.below hb HB.out.lt)
    replace HS := Lib.hid (HS.out.below hb HS.out.lt)
    replace HE := Lib.hid (HE.out.below hb)
    replace HO := Lib.hid (HO.out.new hb)
    clear hb
    (refine hK.out _ _ ?_ (fun hHeld => ?_))
    · exact (HS.out.cell k).trans HCS.out
    clear hK K
    obtain ⟨wd, rfl⟩ : ∃ x : World, x = wn := ⟨_, rfl⟩
    ((refine takeY 8 (v := ?_) rfl (by kernel_rfl) (by kernel_rfl) (by kernel_rfl) (fun _ _ _ h => h) (by rfl) (by assumption) ?_ ?_; rotate_left; · (intro w hSw; (try dsimp only at hSw); go_simp; (first | done | with_reducible rfl))))
    (try simp only [Act.put, List.setIfInBounds_toArray, List.set_cons_zero, List.set_cons_succ])
    (first | (refine takeN 9 rfl (by kernel_rfl) (by kernel_rfl) (by kernel_rfl) (fun _ _ _ h => h) (by rfl) (by assumption) ?_) | (refine takeY 9 (v := ?_) rfl (by kernel_rfl) (by kernel_rfl) (by kernel_rfl) (fun _ _ _ h => h) (by rfl) (by assumption) ?_ ?_; rotate_left; · (intro w hSw; (try dsimp only at hSw); go_simp; (first | done | with_reducible rfl))))
    (try simp only [Act.put, List.setIfInBounds_toArray, List.set_cons_zero, List.set_cons_succ])
    (first | (refine takeN 10 rfl (by kernel_rfl) (by kernel_rfl) (by kernel_rfl) (fun _ _ _ h => h) (by rfl) (by assumption) ?_) | (refine takeY 10 (v := ?_) rfl (by kernel_rfl) (by kernel_rfl) (by kernel_rfl) (fun _ _ _ h => h) (by rfl) (by assumption) ?_ ?_; rotate_left; · (intro w hSw; (try dsimp only at hSw); go_simp; (first | done | with_reducible rfl))))
    (try simp only [Act.put, List.setIfInBounds_toArray, List.set_cons_zero, List.set_cons_succ])
    (first | (refine takeN 11 rfl (by kernel_rfl) (by kernel_rfl) (by kernel_rfl) (fun _ _ _ h => h) (by rfl) (by assumption) ?_) | (refine takeY 11 (v := ?_) rfl (by kernel_rfl) (by kernel_rfl) (by kernel_rfl) (fun _ _ _ h => h) (by rfl) (by assumption) ?_ ?_; rotate_left; · (intro w hSw; (try dsimp only at hSw); go_simp; (first | done | with_reducible rfl))))
    (try simp only [Act.put, List.setIfInBounds_toArray, List.set_cons_zero, List.set_cons_succ])
    (first | (refine takeN 12 rfl (by kernel_rfl) (by kernel_rfl) (by kernel_rfl) (fun _ _ _ h => h) (by rfl) (by assumption) ?_) | (refine takeY 12 (v := ?_) rfl (by kernel_rfl) (by kernel_rfl) (by kernel_rfl) (fun _ _ _ h => h) (by rfl) (by assumption) ?_ ?_; rotate_left; · (intro w hSw; (try dsimp only at hSw); go_simp; (first | done | with_reducible rfl))))
    (try simp only [Act.put, List.setIfInBounds_toArray, List.set_cons_zero, List.set_cons_succ])
    ((refine takeY 13 (v := ?_) rfl (by kernel_rfl) (by kernel_rfl) (by kernel_rfl) (fun _ _ _ h => h) (by rfl) (by assumption) ?_ ?_; rotate_left; · (intro w hSw; (try dsimp only at hSw); go_simp; (first | done | with_reducible rfl))))
    (try simp only [Act.put, List.setIfInBounds_toArray, List.set_cons_zero, List.set_cons_succ])
    ((refine takeY 14 (v := ?_) rfl (by kernel_rfl) (by kernel_rfl) (by kernel_rfl) (fun _ _ _ h => h) (by rfl) (by assumption) ?_ ?_; rotate_left; · (intro w hSw; (try dsimp only at hSw); go_simp; (first | done | with_reducible rfl))))
    (try simp only [Act.put, List.setIfInBounds_toArray, List.set_cons_zero, List.set_cons_succ])
    ((refine takeY 15 (v := ?_) rfl (by kernel_rfl) (by kernel_rfl) (by kernel_rfl) (fun _ _ _ h => h) (by rfl) (by assumption) ?_ ?_; rotate_left; · (intro w hSw; (try dsimp only at hSw); go_simp; (first | done | with_reducible rfl))))
    (try simp only [Act.put, List.setIfInBounds_toArray, List.set_cons_zero, List.set_cons_succ])
    refine wpAnyH_done (by kernel_rfl) ?_ _
    clear hHeld
    go_wp2
    go_ret2
    exact ⟨_, false, rfl, HD.out, HB.out, HO.out⟩
end Go.Proofs.YtjofegjiakjjhaaDoor
/- Script, the program: put, at the other fields. -/
namespace Go.Proofs.YtjofegjiakjjhaaDoor
open Go.RowKit Go.Lib Mf

set_option maxRecDepth 20000 in
set_option maxHeartbeats 8000000 in
theorem lput_x (s o : St) (hs : s.wf) (F : Value) (d : Nat) (hd8 : 8 ≤ d) (G : Value) {w : World} (he : Env w) (hb : Blk w d 25 (stC o G)) :
    Calls Tryd.prog 25 #[.agg (stC s F), .int .u8 120, .pointer (some ⟨d, 0, none⟩)] w (PutIs s o .x d G w) := by
  have HD := Lib.hid (show wrd s .x = some (hexW s.addr.toNat) from rfl)
  have hk1 := hs.a1
  have hc := fun (w : World) (he : Env w) => lhexa s.addr.toNat (by omega) he
  rw [Int.toNat_of_nonneg hs.a0] at hc
  have HC := Lib.hid hc
  clear hc hk1 hs
  have HNm := Lib.hid (fun b w => (show Calls Tryd.prog 42 #[.pointer (some ⟨b, 0, none⟩), .int .u8 120] w fun e w' => e = .returned (.pointer none) ∧ w = w' from lnumber b .x w))
  have hbx := (Below.refl w.heap.size w).alloc (Nat.le_refl _) (.cells (stC s F) 25)
  have HS := Lib.hid (Blk.new w 25 (stC s F))
  have HB := Lib.hid (hb.below hbx hb.lt)
  have HE := Lib.hid (he.below hbx)
  have HO := Lib.hid (show Only (fun g => g = d) w _ from only_fresh hbx)
  have HDL := Lib.hid (show d ≠ w.heap.size ∧ 8 ≤ d from ⟨by have := hb.lt; omega, hd8⟩)
  have HCS := Lib.hid (show (stC s F)[2]? = some (.int .u64 s.addr) from rfl)
  obtain ⟨x0, hx⟩ : ∃ x, (stC o G)[2]? = some x := ⟨_, rfl⟩
  have HX := Lib.hid hx
  obtain ⟨oc, hoc⟩ : ∃ oc, stC o G = oc := ⟨_, rfl⟩
  unfold PutIs
  rw [show stC (put1 s o .x) G = oc.setIfInBounds 2 (.int .u64 s.addr) from by rw [← hoc]; rfl]
  rw [hoc] at HB HX
  clear hoc hx hb hbx he hd8
  obtain ⟨sc, hsc⟩ : ∃ sc, stC s F = sc := ⟨_, rfl⟩
  rw [hsc] at HS HCS HB HE HO ⊢
  clear hsc
  go_enter Tryd.func25, Tryd.ntmps25
  go_upto_region 1 with fail
  generalize w.alloc (.cells sc 25) = w1 at *
  have hxc := (HB.out.cell 2).trans HX.out
  have hxf := HB.out.frozen 2
  have hsk := (HS.out.cell 2).trans HCS.out
  have HS2 := Lib.hid (HS.out.far (p := ⟨d, 2, none⟩) (fun e => HDL.out.1 e.symm) (.int .u64 s.addr))
  have HB2 := Lib.hid (HB.out.set_ 2 (.int .u64 s.addr))
  have HE2 := Lib.hid (HE.out.only (Only.setCell (S := fun g => g = d) (Only.refl _ w1) (p := ⟨d, 2, none⟩) (.inl rfl) (.int .u64 s.addr)) (fun g hg e => by have := HDL.out.2; omega))
  have HO2 := Lib.hid (HO.out.setCell (p := ⟨d, 2, none⟩) (.inl rfl) (.int .u64 s.addr))
  have hsk2 := (HS2.out.cell 2).trans HCS.out
  go_wp2_with fail
  refine (HNm.out _ _).mono ?_; rintro e _ ⟨rfl, rfl⟩
  go_wp2_with fail
  refine (HC.out _ HE2.out).mono ?_; rintro e w4 ⟨rfl, hb⟩
  go_wp2
  go_ret2
  exact ⟨_, true, rfl, HD.out, HB2.out.below hb HB2.out.lt, HO2.out.new hb⟩
set_option maxRecDepth 20000 in
set_option maxHeartbeats 8000000 in
theorem lput_v (s o : St) (hs : s.wf) (F : Value) (d : Nat) (hd8 : 8 ≤ d) (G : Value) {w : World} (he : Env w) (hb : Blk w d 25 (stC o G)) :
    Calls Tryd.prog 25 #[.agg (stC s F), .int .u8 118, .pointer (some ⟨d, 0, none⟩)] w (PutIs s o .v d G w) := by
  have HD := Lib.hid (show wrd s .v = some (hexW s.value.toNat) from rfl)
  have hk1 := hs.v1
  have hc := fun (w : World) (he : Env w) => lhexa s.value.toNat (by omega) he
  rw [Int.toNat_of_nonneg hs.v0] at hc
  have HC := Lib.hid hc
  clear hc hk1 hs
  have HNm := Lib.hid (fun b w => (show Calls Tryd.prog 42 #[.pointer (some ⟨b, 0, none⟩), .int .u8 118] w fun e w' => e = .returned (.pointer none) ∧ w = w' from lnumber b .v w))
  have hbx := (Below.refl w.heap.size w).alloc (Nat.le_refl _) (.cells (stC s F) 25)
  have HS := Lib.hid (Blk.new w 25 (stC s F))
  have HB := Lib.hid (hb.below hbx hb.lt)
  have HE := Lib.hid (he.below hbx)
  have HO := Lib.hid (show Only (fun g => g = d) w _ from only_fresh hbx)
  have HDL := Lib.hid (show d ≠ w.heap.size ∧ 8 ≤ d from ⟨by have := hb.lt; omega, hd8⟩)
  have HCS := Lib.hid (show (stC s F)[4]? = some (.int .u64 s.value) from rfl)
  obtain ⟨x0, hx⟩ : ∃ x, (stC o G)[4]? = some x := ⟨_, rfl⟩
  have HX := Lib.hid hx
  obtain ⟨oc, hoc⟩ : ∃ oc, stC o G = oc := ⟨_, rfl⟩
  unfold PutIs
  rw [show stC (put1 s o .v) G = oc.setIfInBounds 4 (.int .u64 s.value) from by rw [← hoc]; rfl]
  rw [hoc] at HB HX
  clear hoc hx hb hbx he hd8
  obtain ⟨sc, hsc⟩ : ∃ sc, stC s F = sc := ⟨_, rfl⟩
  rw [hsc] at HS HCS HB HE HO ⊢
  clear hsc
  go_enter Tryd.func25, Tryd.ntmps25
  go_upto_region 1 with fail
  generalize w.alloc (.cells sc 25) = w1 at *
  have hxc := (HB.out.cell 4).trans HX.out
  have hxf := HB.out.frozen 4
  have hsk := (HS.out.cell 4).trans HCS.out
  have HS2 := Lib.hid (HS.out.far (p := ⟨d, 4, none⟩) (fun e => HDL.out.1 e.symm) (.int .u64 s.value))
  have HB2 := Lib.hid (HB.out.set_ 4 (.int .u64 s.value))
  have HE2 := Lib.hid (HE.out.only (Only.setCell (S := fun g => g = d) (Only.refl _ w1) (p := ⟨d, 4, none⟩) (.inl rfl) (.int .u64 s.value)) (fun g hg e => by have := HDL.out.2; omega))
  have HO2 := Lib.hid (HO.out.setCell (p := ⟨d, 4, none⟩) (.inl rfl) (.int .u64 s.value))
  have hsk2 := (HS2.out.cell 4).trans HCS.out
  go_wp2_with fail
  refine (HNm.out _ _).mono ?_; rintro e _ ⟨rfl, rfl⟩
  go_wp2_with fail
  refine (HC.out _ HE2.out).mono ?_; rintro e w4 ⟨rfl, hb⟩
  go_wp2
  go_ret2
  exact ⟨_, true, rfl, HD.out, HB2.out.below hb HB2.out.lt, HO2.out.new hb⟩
set_option maxRecDepth 20000 in
set_option maxHeartbeats 8000000 in
theorem lput_o (s o : St) (F : Value) (d : Nat) (hd8 : 8 ≤ d) (G : Value) {w : World} (he : Env w) (hb : Blk w d 25 (stC o G)) :
    Calls Tryd.prog 25 #[.agg (stC s F), .int .u8 111, .pointer (some ⟨d, 0, none⟩)] w (PutIs s o .o d G w) := by
  have HD := Lib.hid (show wrd s .o = some (if s.on then [111, 110] else [111, 102, 102]) from rfl)
  have HNm := Lib.hid (fun b w => (show Calls Tryd.prog 42 #[.pointer (some ⟨b, 0, none⟩), .int .u8 111] w fun e w' => e = .returned (.pointer none) ∧ w = w' from lnumber b .o w))
  have hbx := (Below.refl w.heap.size w).alloc (Nat.le_refl _) (.cells (stC s F) 25)
  have HS := Lib.hid (Blk.new w 25 (stC s F))
  have HB := Lib.hid (hb.below hbx hb.lt)
  have HE := Lib.hid (he.below hbx)
  have HO := Lib.hid (show Only (fun g => g = d) w _ from only_fresh hbx)
  have HDL := Lib.hid (show d ≠ w.heap.size ∧ 8 ≤ d from ⟨by have := hb.lt; omega, hd8⟩)
  have HCS := Lib.hid (show (stC s F)[6]? = some (.bool s.on) from rfl)
  obtain ⟨x0, hx⟩ : ∃ x, (stC o G)[6]? = some x := ⟨_, rfl⟩
  have HX := Lib.hid hx
  obtain ⟨oc, hoc⟩ : ∃ oc, stC o G = oc := ⟨_, rfl⟩
  unfold PutIs
  rw [show stC (put1 s o .o) G = oc.setIfInBounds 6 (.bool s.on) from by rw [← hoc]; rfl]
  rw [hoc] at HB HX
  clear hoc hx hb hbx he hd8
  obtain ⟨sc, hsc⟩ : ∃ sc, stC s F = sc := ⟨_, rfl⟩
  rw [hsc] at HS HCS HB HE HO ⊢
  clear hsc
  cases hon : s.on with
  | true =>
    rw [hon] at HD HCS
    clear hon
    go_enter Tryd.func25, Tryd.ntmps25
    go_upto_region 1 with fail
    generalize w.alloc (.cells sc 25) = w1 at *
    have hxc := (HB.out.cell 6).trans HX.out
    have hxf := HB.out.frozen 6
    have hsk := (HS.out.cell 6).trans HCS.out
    have HS2 := Lib.hid (HS.out.far (p := ⟨d, 6, none⟩) (fun e => HDL.out.1 e.symm) (.bool true))
    have HB2 := Lib.hid (HB.out.set_ 6 (.bool true))
    have HE2 := Lib.hid (HE.out.only (Only.setCell (S := fun g => g = d) (Only.refl _ w1) (p := ⟨d, 6, none⟩) (.inl rfl) (.bool true)) (fun g hg e => by have := HDL.out.2; omega))
    have HO2 := Lib.hid (HO.out.setCell (p := ⟨d, 6, none⟩) (.inl rfl) (.bool true))
    have hsk2 := (HS2.out.cell 6).trans HCS.out
    go_wp2_with fail
    refine (HNm.out _ _).mono ?_; rintro e _ ⟨rfl, rfl⟩
    go_wp2_with fail
    refine (leither_t [111, 110] [111, 102, 102] _).mono ?_; rintro e _ ⟨rfl, rfl⟩
    go_wp2
    go_ret2
    exact ⟨[111, 110], true, rfl, HD.out, HB2.out, HO2.out⟩
  | false =>
    rw [hon] at HD HCS
    clear hon
    go_enter Tryd.func25, Tryd.ntmps25
    go_upto_region 1 with fail
    generalize w.alloc (.cells sc 25) = w1 at *
    have hxc := (HB.out.cell 6).trans HX.out
    have hxf := HB.out.frozen 6
    have hsk := (HS.out.cell 6).trans HCS.out
    have HS2 := Lib.hid (HS.out.far (p := ⟨d, 6, none⟩) (fun e => HDL.out.1 e.symm) (.bool false))
    have HB2 := Lib.hid (HB.out.set_ 6 (.bool false))
    have HE2 := Lib.hid (HE.out.only (Only.setCell (S := fun g => g = d) (Only.refl _ w1) (p := ⟨d, 6, none⟩) (.inl rfl) (.bool false)) (fun g hg e => by have := HDL.out.2; omega))
    have HO2 := Lib.hid (HO.out.setCell (p := ⟨d, 6, none⟩) (.inl rfl) (.bool false))
    have hsk2 := (HS2.out.cell 6).trans HCS.out
    go_wp2_with fail
    refine (HNm.out _ _).mono ?_; rintro e _ ⟨rfl, rfl⟩
    go_wp2_with fail
    refine (leither_f [111, 110] [111, 102, 102] _).mono ?_; rintro e _ ⟨rfl, rfl⟩
    go_wp2
    go_ret2
    exact ⟨[111, 102, 102], true, rfl, HD.out, HB2.out, HO2.out⟩
set_option maxRecDepth 20000 in
set_option maxHeartbeats 8000000 in
theorem lput_r (s o : St) (F : Value) (d : Nat) (hd8 : 8 ≤ d) (G : Value) {w : World} (he : Env w) (hb : Blk w d 25 (stC o G)) :
    Calls Tryd.prog 25 #[.agg (stC s F), .int .u8 114, .pointer (some ⟨d, 0, none⟩)] w (PutIs s o .r d G w) := by
  have HD := Lib.hid (show wrd s .r = some (if s.on then [114, 119] else [114, 111]) from rfl)
  have HNm := Lib.hid (fun b w => (show Calls Tryd.prog 42 #[.pointer (some ⟨b, 0, none⟩), .int .u8 114] w fun e w' => e = .returned (.pointer none) ∧ w = w' from lnumber b .r w))
  have hbx := (Below.refl w.heap.size w).alloc (Nat.le_refl _) (.cells (stC s F) 25)
  have HS := Lib.hid (Blk.new w 25 (stC s F))
  have HB := Lib.hid (hb.below hbx hb.lt)
  have HE := Lib.hid (he.below hbx)
  have HO := Lib.hid (show Only (fun g => g = d) w _ from only_fresh hbx)
  have HDL := Lib.hid (show d ≠ w.heap.size ∧ 8 ≤ d from ⟨by have := hb.lt; omega, hd8⟩)
  have HCS := Lib.hid (show (stC s F)[6]? = some (.bool s.on) from rfl)
  obtain ⟨x0, hx⟩ : ∃ x, (stC o G)[6]? = some x := ⟨_, rfl⟩
  have HX := Lib.hid hx
  obtain ⟨oc, hoc⟩ : ∃ oc, stC o G = oc := ⟨_, rfl⟩
  unfold PutIs
  rw [show stC (put1 s o .r) G = oc.setIfInBounds 6 (.bool s.on) from by rw [← hoc]; rfl]
  rw [hoc] at HB HX
  clear hoc hx hb hbx he hd8
  obtain ⟨sc, hsc⟩ : ∃ sc, stC s F = sc := ⟨_, rfl⟩
  rw [hsc] at HS HCS HB HE HO ⊢
  clear hsc
  cases hon : s.on with
  | true =>
    rw [hon] at HD HCS
    clear hon
    go_enter Tryd.func25, Tryd.ntmps25
    go_upto_region 1 with fail
    generalize w.alloc (.cells sc 25) = w1 at *
    have hxc := (HB.out.cell 6).trans HX.out
    have hxf := HB.out.frozen 6
    have hsk := (HS.out.cell 6).trans HCS.out
    have HS2 := Lib.hid (HS.out.far (p := ⟨d, 6, none⟩) (fun e => HDL.out.1 e.symm) (.bool true))
    have HB2 := Lib.hid (HB.out.set_ 6 (.bool true))
    have HE2 := Lib.hid (HE.out.only (Only.setCell (S := fun g => g = d) (Only.refl _ w1) (p := ⟨d, 6, none⟩) (.inl rfl) (.bool true)) (fun g hg e => by have := HDL.out.2; omega))
    have HO2 := Lib.hid (HO.out.setCell (p := ⟨d, 6, none⟩) (.inl rfl) (.bool true))
    have hsk2 := (HS2.out.cell 6).trans HCS.out
    go_wp2_with fail
    refine (HNm.out _ _).mono ?_; rintro e _ ⟨rfl, rfl⟩
    go_wp2_with fail
    refine (leither_t [114, 119] [114, 111] _).mono ?_; rintro e _ ⟨rfl, rfl⟩
    go_wp2
    go_ret2
    exact ⟨[114, 119], true, rfl, HD.out, HB2.out, HO2.out⟩
  | false =>
    rw [hon] at HD HCS
    clear hon
    go_enter Tryd.func25, Tryd.ntmps25
    go_upto_region 1 with fail
    generalize w.alloc (.cells sc 25) = w1 at *
    have hxc := (HB.out.cell 6).trans HX.out
    have hxf := HB.out.frozen 6
    have hsk := (HS.out.cell 6).trans HCS.out
    have HS2 := Lib.hid (HS.out.far (p := ⟨d, 6, none⟩) (fun e => HDL.out.1 e.symm) (.bool false))
    have HB2 := Lib.hid (HB.out.set_ 6 (.bool false))
    have HE2 := Lib.hid (HE.out.only (Only.setCell (S := fun g => g = d) (Only.refl _ w1) (p := ⟨d, 6, none⟩) (.inl rfl) (.bool false)) (fun g hg e => by have := HDL.out.2; omega))
    have HO2 := Lib.hid (HO.out.setCell (p := ⟨d, 6, none⟩) (.inl rfl) (.bool false))
    have hsk2 := (HS2.out.cell 6).trans HCS.out
    go_wp2_with fail
    refine (HNm.out _ _).mono ?_; rintro e _ ⟨rfl, rfl⟩
    go_wp2_with fail
    refine (leither_f [114, 119] [114, 111] _).mono ?_; rintro e _ ⟨rfl, rfl⟩
    go_wp2
    go_ret2
    exact ⟨[114, 111], true, rfl, HD.out, HB2.out, HO2.out⟩
set_option maxRecDepth 20000 in
set_option maxHeartbeats 8000000 in
theorem lput_l (s o : St) (F : Value) (d : Nat) (hd8 : 8 ≤ d) (G : Value) {w : World} (he : Env w) (hb : Blk w d 25 (stC o G)) :
    Calls Tryd.prog 25 #[.agg (stC s F), .int .u8 108, .pointer (some ⟨d, 0, none⟩)] w (PutIs s o .l d G w) := by
  have hd := (show wrd s .l = whatW s.what from rfl)
  have HNm := Lib.hid (fun b w => (show Calls Tryd.prog 42 #[.pointer (some ⟨b, 0, none⟩), .int .u8 108] w fun e w' => e = .returned (.pointer none) ∧ w = w' from lnumber b .l w))
  have hbx := (Below.refl w.heap.size w).alloc (Nat.le_refl _) (.cells (stC s F) 25)
  have HS := Lib.hid (Blk.new w 25 (stC s F))
  have HB := Lib.hid (hb.below hbx hb.lt)
  have HE := Lib.hid (he.below hbx)
  have HO := Lib.hid (show Only (fun g => g = d) w _ from only_fresh hbx)
  have HDL := Lib.hid (show d ≠ w.heap.size ∧ 8 ≤ d from ⟨by have := hb.lt; omega, hd8⟩)
  have HCS := Lib.hid (show (stC s F)[8]? = some (.int .i64 s.what) from rfl)
  obtain ⟨x0, hx⟩ : ∃ x, (stC o G)[8]? = some x := ⟨_, rfl⟩
  have HX := Lib.hid hx
  obtain ⟨oc, hoc⟩ : ∃ oc, stC o G = oc := ⟨_, rfl⟩
  unfold PutIs
  rw [show stC (put1 s o .l) G = oc.setIfInBounds 8 (.int .i64 s.what) from by rw [← hoc]; rfl]
  rw [hoc] at HB HX
  clear hoc hx hb hbx he hd8
  obtain ⟨sc, hsc⟩ : ∃ sc, stC s F = sc := ⟨_, rfl⟩
  rw [hsc] at HS HCS HB HE HO ⊢
  clear hsc
  obtain ⟨n, hn⟩ : ∃ n, s.what = n := ⟨_, rfl⟩
  rw [hn] at hd HCS ⊢
  clear hn
  rcases what_cases n with ⟨q1, e⟩ | ⟨q1, q2, e⟩ | ⟨rfl, e⟩ | ⟨rfl, e⟩ | ⟨rfl, e⟩
  · have HD := Lib.hid (hd.trans e)
    clear hd e
    go_enter Tryd.func25, Tryd.ntmps25
    go_upto_region 1 with fail
    generalize w.alloc (.cells sc 25) = w1 at *
    have hxc := (HB.out.cell 8).trans HX.out
    have hxf := HB.out.frozen 8
    have hsk := (HS.out.cell 8).trans HCS.out
    have HS2 := Lib.hid (HS.out.far (p := ⟨d, 8, none⟩) (fun e => HDL.out.1 e.symm) (.int .i64 n))
    have HB2 := Lib.hid (HB.out.set_ 8 (.int .i64 n))
    have HE2 := Lib.hid (HE.out.only (Only.setCell (S := fun g => g = d) (Only.refl _ w1) (p := ⟨d, 8, none⟩) (.inl rfl) (.int .i64 n)) (fun g hg e => by have := HDL.out.2; omega))
    have HO2 := Lib.hid (HO.out.setCell (p := ⟨d, 8, none⟩) (.inl rfl) (.int .i64 n))
    have hsk2 := (HS2.out.cell 8).trans HCS.out
    go_wp2_with fail
    refine (HNm.out _ _).mono ?_; rintro e _ ⟨rfl, rfl⟩
    go_wp2
    go_ret2
    exact ⟨[], false, rfl, HD.out, HB2.out, HO2.out⟩
  · have HD := Lib.hid (hd.trans e)
    clear hd e
    go_enter Tryd.func25, Tryd.ntmps25
    go_upto_region 1 with fail
    generalize w.alloc (.cells sc 25) = w1 at *
    have hxc := (HB.out.cell 8).trans HX.out
    have hxf := HB.out.frozen 8
    have hsk := (HS.out.cell 8).trans HCS.out
    have HS2 := Lib.hid (HS.out.far (p := ⟨d, 8, none⟩) (fun e => HDL.out.1 e.symm) (.int .i64 n))
    have HB2 := Lib.hid (HB.out.set_ 8 (.int .i64 n))
    have HE2 := Lib.hid (HE.out.only (Only.setCell (S := fun g => g = d) (Only.refl _ w1) (p := ⟨d, 8, none⟩) (.inl rfl) (.int .i64 n)) (fun g hg e => by have := HDL.out.2; omega))
    have HO2 := Lib.hid (HO.out.setCell (p := ⟨d, 8, none⟩) (.inl rfl) (.int .i64 n))
    have hsk2 := (HS2.out.cell 8).trans HCS.out
    go_wp2_with fail
    refine (HNm.out _ _).mono ?_; rintro e _ ⟨rfl, rfl⟩
    go_wp2
    go_ret2
    exact ⟨[], false, rfl, HD.out, HB2.out, HO2.out⟩
  · have HD := Lib.hid (hd.trans e)
    clear hd e
    go_enter Tryd.func25, Tryd.ntmps25
    go_upto_region 1 with fail
    generalize w.alloc (.cells sc 25) = w1 at *
    have hxc := (HB.out.cell 8).trans HX.out
    have hxf := HB.out.frozen 8
    have hsk := (HS.out.cell 8).trans HCS.out
    have HS2 := Lib.hid (HS.out.far (p := ⟨d, 8, none⟩) (fun e => HDL.out.1 e.symm) (.int .i64 1))
    have HB2 := Lib.hid (HB.out.set_ 8 (.int .i64 1))
    have HE2 := Lib.hid (HE.out.only (Only.setCell (S := fun g => g = d) (Only.refl _ w1) (p := ⟨d, 8, none⟩) (.inl rfl) (.int .i64 1)) (fun g hg e => by have := HDL.out.2; omega))
    have HO2 := Lib.hid (HO.out.setCell (p := ⟨d, 8, none⟩) (.inl rfl) (.int .i64 1))
    have hsk2 := (HS2.out.cell 8).trans HCS.out
    go_wp2_with fail
    refine (HNm.out _ _).mono ?_; rintro e _ ⟨rfl, rfl⟩
    go_upto_region 22 with fail
    have hix : ∀ w : World, (Instr.index 88 (.agg #[bv [], bv [97, 108, 108], bv [97, 115, 105, 100], bv [118, 97]]) (.int .i64 1)).run Tryd.prog w = .ok (bv [97, 108, 108]) w := fun w => by kernel_rfl
    refine wp_region_held_drew (S := (fun w' => w'.cell? ⟨w.heap.size, 8, none⟩ = some (.int .i64 1))) (by kernel_rfl) ?_ (fun hHeld => ?_)
    · exact hsk2
    replace HB2 := Lib.hid (show Blk (w1.setCell ⟨d, 8, none⟩ (.int .i64 1)).drew d 25 _ from HB2.out)
    replace HS2 := Lib.hid (show Blk (w1.setCell ⟨d, 8, none⟩ (.int .i64 1)).drew w.heap.size 25 _ from HS2.out)
    replace HO2 := Lib.hid (HO2.out.drew)
    generalize (w1.setCell ⟨d, 8, none⟩ (.int .i64 1)).drew = wc at *
    ((refine takeY 1 (v := ?_) rfl (by kernel_rfl) (by kernel_rfl) (by kernel_rfl) (fun _ _ _ h => h) (by rfl) (by assumption) ?_ ?_; rotate_left; · (intro w hSw; (try dsimp only at hSw); go_simp; (first | done | with_reducible rfl))))
    (try simp only [Act.put, List.setIfInBounds_toArray, List.set_cons_zero, List.set_cons_succ])
    ((refine takeY 2 (v := ?_) rfl (by kernel_rfl) (by kernel_rfl) (by kernel_rfl) (fun _ _ _ h => h) (by rfl) (by assumption) ?_ ?_; rotate_left; · (intro w hSw; (try dsimp only at hSw); go_simp; (first | done | with_reducible rfl))))
    (try simp only [Act.put, List.setIfInBounds_toArray, List.set_cons_zero, List.set_cons_succ])
    refine stepH 0 rfl (by kernel_rfl) (by rfl) (fun K hK => ?_)
    go_simp
    refine (lwhats _).mono ?_; rintro e wn ⟨rfl, hb⟩
    replace HB2 := Lib.hid (HB2.out.below hb HB2.out.lt)
    replace HS2 := Lib.hid (HS2.out.below hb HS2.out.lt)
    replace HO2 := Lib.hid (HO2.out.new hb)
    clear hb
    (refine hK.out _ _ ?_ (fun hHeld => ?_))
    · exact (HS2.out.cell 8).trans HCS.out
    clear hK K
    ((refine takeY 3 (v := ?_) rfl (by kernel_rfl) (by kernel_rfl) (by kernel_rfl) (fun _ _ _ h => h) (by rfl) (by assumption) ?_ ?_; rotate_left; · (intro w hSw; (try dsimp only at hSw); go_simp; (first | done | with_reducible rfl))))
    (try simp only [Act.put, List.setIfInBounds_toArray, List.set_cons_zero, List.set_cons_succ])
    ((refine takeY 4 (v := ?_) rfl (by kernel_rfl) (by kernel_rfl) (by kernel_rfl) (fun _ _ _ h => h) (by rfl) (by assumption) ?_ ?_; rotate_left; · (intro w hSw; (try dsimp only at hSw); go_simp; (first | done | with_reducible rfl))))
    (try simp only [Act.put, List.setIfInBounds_toArray, List.set_cons_zero, List.set_cons_succ])
    ((refine takeY 5 (v := ?_) rfl (by kernel_rfl) (by kernel_rfl) (by kernel_rfl) (fun _ _ _ h => h) (by rfl) (by assumption) ?_ ?_; rotate_left; · (intro w hSw; (try dsimp only at hSw); go_simp; (first | done | with_reducible rfl))))
    (try simp only [Act.put, List.setIfInBounds_toArray, List.set_cons_zero, List.set_cons_succ])
    refine wpAnyH_done (by kernel_rfl) ?_ _
    clear hHeld
    go_wp2
    go_ret2
    exact ⟨_, true, rfl, HD.out, HB2.out, HO2.out⟩
  · have HD := Lib.hid (hd.trans e)
    clear hd e
    go_enter Tryd.func25, Tryd.ntmps25
    go_upto_region 1 with fail
    generalize w.alloc (.cells sc 25) = w1 at *
    have hxc := (HB.out.cell 8).trans HX.out
    have hxf := HB.out.frozen 8
    have hsk := (HS.out.cell 8).trans HCS.out
    have HS2 := Lib.hid (HS.out.far (p := ⟨d, 8, none⟩) (fun e => HDL.out.1 e.symm) (.int .i64 2))
    have HB2 := Lib.hid (HB.out.set_ 8 (.int .i64 2))
    have HE2 := Lib.hid (HE.out.only (Only.setCell (S := fun g => g = d) (Only.refl _ w1) (p := ⟨d, 8, none⟩) (.inl rfl) (.int .i64 2)) (fun g hg e => by have := HDL.out.2; omega))
    have HO2 := Lib.hid (HO.out.setCell (p := ⟨d, 8, none⟩) (.inl rfl) (.int .i64 2))
    have hsk2 := (HS2.out.cell 8).trans HCS.out
    go_wp2_with fail
    refine (HNm.out _ _).mono ?_; rintro e _ ⟨rfl, rfl⟩
    go_upto_region 22 with fail
    have hix : ∀ w : World, (Instr.index 88 (.agg #[bv [], bv [97, 108, 108], bv [97, 115, 105, 100], bv [118, 97]]) (.int .i64 2)).run Tryd.prog w = .ok (bv [97, 115, 105, 100]) w := fun w => by kernel_rfl
    refine wp_region_held_drew (S := (fun w' => w'.cell? ⟨w.heap.size, 8, none⟩ = some (.int .i64 2))) (by kernel_rfl) ?_ (fun hHeld => ?_)
    · exact hsk2
    replace HB2 := Lib.hid (show Blk (w1.setCell ⟨d, 8, none⟩ (.int .i64 2)).drew d 25 _ from HB2.out)
    replace HS2 := Lib.hid (show Blk (w1.setCell ⟨d, 8, none⟩ (.int .i64 2)).drew w.heap.size 25 _ from HS2.out)
    replace HO2 := Lib.hid (HO2.out.drew)
    generalize (w1.setCell ⟨d, 8, none⟩ (.int .i64 2)).drew = wc at *
    ((refine takeY 1 (v := ?_) rfl (by kernel_rfl) (by kernel_rfl) (by kernel_rfl) (fun _ _ _ h => h) (by rfl) (by assumption) ?_ ?_; rotate_left; · (intro w hSw; (try dsimp only at hSw); go_simp; (first | done | with_reducible rfl))))
    (try simp only [Act.put, List.setIfInBounds_toArray, List.set_cons_zero, List.set_cons_succ])
    ((refine takeY 2 (v := ?_) rfl (by kernel_rfl) (by kernel_rfl) (by kernel_rfl) (fun _ _ _ h => h) (by rfl) (by assumption) ?_ ?_; rotate_left; · (intro w hSw; (try dsimp only at hSw); go_simp; (first | done | with_reducible rfl))))
    (try simp only [Act.put, List.setIfInBounds_toArray, List.set_cons_zero, List.set_cons_succ])
    refine stepH 0 rfl (by kernel_rfl) (by rfl) (fun K hK => ?_)
    go_simp
    refine (lwhats _).mono ?_; rintro e wn ⟨rfl, hb⟩
    replace HB2 := Lib.hid (HB2.out.below hb HB2.out.lt)
    replace HS2 := Lib.hid (HS2.out.below hb HS2.out.lt)
    replace HO2 := Lib.hid (HO2.out.new hb)
    clear hb
    (refine hK.out _ _ ?_ (fun hHeld => ?_))
    · exact (HS2.out.cell 8).trans HCS.out
    clear hK K
    ((refine takeY 3 (v := ?_) rfl (by kernel_rfl) (by kernel_rfl) (by kernel_rfl) (fun _ _ _ h => h) (by rfl) (by assumption) ?_ ?_; rotate_left; · (intro w hSw; (try dsimp only at hSw); go_simp; (first | done | with_reducible rfl))))
    (try simp only [Act.put, List.setIfInBounds_toArray, List.set_cons_zero, List.set_cons_succ])
    ((refine takeY 4 (v := ?_) rfl (by kernel_rfl) (by kernel_rfl) (by kernel_rfl) (fun _ _ _ h => h) (by rfl) (by assumption) ?_ ?_; rotate_left; · (intro w hSw; (try dsimp only at hSw); go_simp; (first | done | with_reducible rfl))))
    (try simp only [Act.put, List.setIfInBounds_toArray, List.set_cons_zero, List.set_cons_succ])
    ((refine takeY 5 (v := ?_) rfl (by kernel_rfl) (by kernel_rfl) (by kernel_rfl) (fun _ _ _ h => h) (by rfl) (by assumption) ?_ ?_; rotate_left; · (intro w hSw; (try dsimp only at hSw); go_simp; (first | done | with_reducible rfl))))
    (try simp only [Act.put, List.setIfInBounds_toArray, List.set_cons_zero, List.set_cons_succ])
    refine wpAnyH_done (by kernel_rfl) ?_ _
    clear hHeld
    go_wp2
    go_ret2
    exact ⟨_, true, rfl, HD.out, HB2.out, HO2.out⟩
  · have HD := Lib.hid (hd.trans e)
    clear hd e
    go_enter Tryd.func25, Tryd.ntmps25
    go_upto_region 1 with fail
    generalize w.alloc (.cells sc 25) = w1 at *
    have hxc := (HB.out.cell 8).trans HX.out
    have hxf := HB.out.frozen 8
    have hsk := (HS.out.cell 8).trans HCS.out
    have HS2 := Lib.hid (HS.out.far (p := ⟨d, 8, none⟩) (fun e => HDL.out.1 e.symm) (.int .i64 3))
    have HB2 := Lib.hid (HB.out.set_ 8 (.int .i64 3))
    have HE2 := Lib.hid (HE.out.only (Only.setCell (S := fun g => g = d) (Only.refl _ w1) (p := ⟨d, 8, none⟩) (.inl rfl) (.int .i64 3)) (fun g hg e => by have := HDL.out.2; omega))
    have HO2 := Lib.hid (HO.out.setCell (p := ⟨d, 8, none⟩) (.inl rfl) (.int .i64 3))
    have hsk2 := (HS2.out.cell 8).trans HCS.out
    go_wp2_with fail
    refine (HNm.out _ _).mono ?_; rintro e _ ⟨rfl, rfl⟩
    go_upto_region 22 with fail
    have hix : ∀ w : World, (Instr.index 88 (.agg #[bv [], bv [97, 108, 108], bv [97, 115, 105, 100], bv [118, 97]]) (.int .i64 3)).run Tryd.prog w = .ok (bv [118, 97]) w := fun w => by kernel_rfl
    refine wp_region_held_drew (S := (fun w' => w'.cell? ⟨w.heap.size, 8, none⟩ = some (.int .i64 3))) (by kernel_rfl) ?_ (fun hHeld => ?_)
    · exact hsk2
    replace HB2 := Lib.hid (show Blk (w1.setCell ⟨d, 8, none⟩ (.int .i64 3)).drew d 25 _ from HB2.out)
    replace HS2 := Lib.hid (show Blk (w1.setCell ⟨d, 8, none⟩ (.int .i64 3)).drew w.heap.size 25 _ from HS2.out)
    replace HO2 := Lib.hid (HO2.out.drew)
    generalize (w1.setCell ⟨d, 8, none⟩ (.int .i64 3)).drew = wc at *
    ((refine takeY 1 (v := ?_) rfl (by kernel_rfl) (by kernel_rfl) (by kernel_rfl) (fun _ _ _ h => h) (by rfl) (by assumption) ?_ ?_; rotate_left; · (intro w hSw; (try dsimp only at hSw); go_simp; (first | done | with_reducible rfl))))
    (try simp only [Act.put, List.setIfInBounds_toArray, List.set_cons_zero, List.set_cons_succ])
    ((refine takeY 2 (v := ?_) rfl (by kernel_rfl) (by kernel_rfl) (by kernel_rfl) (fun _ _ _ h => h) (by rfl) (by assumption) ?_ ?_; rotate_left; · (intro w hSw; (try dsimp only at hSw); go_simp; (first | done | with_reducible rfl))))
    (try simp only [Act.put, List.setIfInBounds_toArray, List.set_cons_zero, List.set_cons_succ])
    refine stepH 0 rfl (by kernel_rfl) (by rfl) (fun K hK => ?_)
    go_simp
    refine (lwhats _).mono ?_; rintro e wn ⟨rfl, hb⟩
    replace HB2 := Lib.hid (HB2.out.below hb HB2.out.lt)
    replace HS2 := Lib.hid (HS2.out.below hb HS2.out.lt)
    replace HO2 := Lib.hid (HO2.out.new hb)
    clear hb
    (refine hK.out _ _ ?_ (fun hHeld => ?_))
    · exact (HS2.out.cell 8).trans HCS.out
    clear hK K
    ((refine takeY 3 (v := ?_) rfl (by kernel_rfl) (by kernel_rfl) (by kernel_rfl) (fun _ _ _ h => h) (by rfl) (by assumption) ?_ ?_; rotate_left; · (intro w hSw; (try dsimp only at hSw); go_simp; (first | done | with_reducible rfl))))
    (try simp only [Act.put, List.setIfInBounds_toArray, List.set_cons_zero, List.set_cons_succ])
    ((refine takeY 4 (v := ?_) rfl (by kernel_rfl) (by kernel_rfl) (by kernel_rfl) (fun _ _ _ h => h) (by rfl) (by assumption) ?_ ?_; rotate_left; · (intro w hSw; (try dsimp only at hSw); go_simp; (first | done | with_reducible rfl))))
    (try simp only [Act.put, List.setIfInBounds_toArray, List.set_cons_zero, List.set_cons_succ])
    ((refine takeY 5 (v := ?_) rfl (by kernel_rfl) (by kernel_rfl) (by kernel_rfl) (fun _ _ _ h => h) (by rfl) (by assumption) ?_ ?_; rotate_left; · (intro w hSw; (try dsimp only at hSw); go_simp; (first | done | with_reducible rfl))))
    (try simp only [Act.put, List.setIfInBounds_toArray, List.set_cons_zero, List.set_cons_succ])
    refine wpAnyH_done (by kernel_rfl) ?_ _
    clear hHeld
    go_wp2
    go_ret2
    exact ⟨_, true, rfl, HD.out, HB2.out, HO2.out⟩
set_option maxRecDepth 20000 in
set_option maxHeartbeats 8000000 in
theorem lput_f (s o : St) (F : Value) (d : Nat) (G : Value) {w : World} (hf : FailsAt w w.heap.size F s.fails) (hl : s.fails.length ≤ 1000000) (hb : Blk w d 25 (stC o G)) :
    Calls Tryd.prog 25 #[.agg (stC s F), .int .u8 102, .pointer (some ⟨d, 0, none⟩)] w (PutIs s o .f d G w) := by
  have HNm := Lib.hid (fun b w => (show Calls Tryd.prog 42 #[.pointer (some ⟨b, 0, none⟩), .int .u8 102] w fun e w' => e = .returned (.pointer none) ∧ w = w' from lnumber b .f w))
  have hbx := (Below.refl w.heap.size w).alloc (Nat.le_refl _) (.cells (stC s F) 25)
  have HS := Lib.hid (Blk.new w 25 (stC s F))
  have HCS := Lib.hid (show (stC s F)[11]? = some F from rfl)
  have HB := Lib.hid (hb.below hbx hb.lt)
  have HO := Lib.hid (show Only (fun g => g = d) w _ from only_fresh hbx)
  have HF := Lib.hid (hf.below hbx)
  have HD := Lib.hid (show wrd s .f = some (failW s.fails) from rfl)
  unfold PutIs
  rw [show stC (put1 s o .f) G = stC o G from rfl]
  generalize stC o G = oc at *
  clear hb hbx hf
  obtain ⟨sc, hsc⟩ : ∃ sc, stC s F = sc := ⟨_, rfl⟩
  rw [hsc] at HS HCS HB HO HF ⊢
  clear hsc
  go_enter Tryd.func25, Tryd.ntmps25
  go_upto_region 1 with fail
  generalize w.alloc (.cells sc 25) = w1 at *
  have hsk := (HS.out.cell 11).trans HCS.out
  go_wp2_with fail
  refine (HNm.out _ _).mono ?_; rintro e _ ⟨rfl, rfl⟩
  go_wp2_with fail
  refine (lbits s.fails hl F _ HF.out).mono ?_; rintro e w4 ⟨rfl, hb⟩
  go_wp2
  go_ret2
  exact ⟨_, true, rfl, HD.out, HB.out.below hb HB.out.lt, HO.out.new hb⟩
theorem lput (s o : St) (hs : s.ok) (c : Fd) (F : Value) (d : Nat) (hd8 : 8 ≤ d) (G : Value) {w : World} (he : Env w) (hf : FailsAt w w.heap.size F s.fails) (hl : s.fails.length ≤ 1000000) (hb : Blk w d 25 (stC o G)) :
    Calls Tryd.prog 25 #[.agg (stC s F), .int .u8 ((pcd c).toNat : Int), .pointer (some ⟨d, 0, none⟩)] w (PutIs s o c d G w) := by
  cases c
  · exact lput_num s o .g rfl hs.guest F rfl rfl d hd8 G rfl (by decide) he hb
  · exact lput_num s o .p rfl hs.page F rfl rfl d hd8 G rfl (by decide) he hb
  · exact lput_num s o .s rfl hs.size F rfl rfl d hd8 G rfl (by decide) he hb
  · exact lput_num s o .a rfl hs.asid F rfl rfl d hd8 G rfl (by decide) he hb
  · exact lput_num s o .w rfl hs.way F rfl rfl d hd8 G rfl (by decide) he hb
  · exact lput_num s o .t rfl hs.set F rfl rfl d hd8 G rfl (by decide) he hb
  · exact lput_x s o hs.towf F d hd8 G he hb
  · exact lput_v s o hs.towf F d hd8 G he hb
  · exact lput_o s o F d hd8 G he hb
  · exact lput_r s o F d hd8 G he hb
  · exact lput_l s o F d hd8 G he hb
  · exact lput_f s o F d G hf hl hb
end Go.Proofs.YtjofegjiakjjhaaDoor
