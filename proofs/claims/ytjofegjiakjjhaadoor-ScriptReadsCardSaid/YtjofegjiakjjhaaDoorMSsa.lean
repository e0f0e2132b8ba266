import Derived.Test.YtjofegjiakjjhaaDoorMSpq
import Derived.Test.YtjofegjiakjjhaaDoorMSpt
import Derived.BigQuiet
/- Script, the document's own: Same. -/
namespace Go.Proofs.YtjofegjiakjjhaaDoor
open Go.RowKit Go.Lib Mf

def SmR (w : World) (B2 : Nat) (cs ds : Array Value) (fa fb : List Bool) (v5 : Value) (wr : World) : Prop := ∃ i : Nat, v5 = .int .i64 i ∧ i ≤ fa.length ∧ (∀ j, j < i → fa[j]? = fb[j]?) ∧ Blk wr w.heap.size 25 cs ∧ Blk wr B2 25 ds ∧ Below w.heap.size w wr
def sameS (s t : St) : Bool := decide (s.fails = t.fails) && sameB s t
theorem sameS_iff (s t : St) : sameS s t = true ↔ s = t := by
  unfold sameS
  rw [Bool.and_eq_true, decide_eq_true_eq, sameB_iff]
  constructor
  · rintro ⟨h, h1, h2, h3, h4, h5, h6, h7, h8, h9, h10, h11⟩
    cases s; cases t
    simp_all
  · rintro rfl
    exact ⟨rfl, rfl, rfl, rfl, rfl, rfl, rfl, rfl, rfl, rfl, rfl, rfl⟩
set_option maxRecDepth 20000 in
set_option maxHeartbeats 8000000 in
theorem rsame (s t : St) (F G : Value) (w : World) (hf : FailsAt w w.heap.size F s.fails) (hg : FailsAt w w.heap.size G t.fails) (hl : s.fails.length ≤ 1000000) (hl2 : t.fails.length ≤ 1000000) : Calls Tryd.prog 15 #[.agg (stC s F), .agg (stC t G)] w fun e w' => e = .returned (.bool (sameS s t)) ∧ Below w.heap.size w w' := by
  obtain ⟨A, ca, rfl, hrA⟩ := hf
  obtain ⟨B, cb, rfl, hrB⟩ := hg
  unfold sameS sameB stC
  generalize s.kind = a0, s.guest = a1, s.addr = a2, s.size = a3, s.value = a4, s.page = a5, s.on = a6, s.asid = a7, s.what = a8, s.set = a9, s.way = a10, s.fails = fa at *
  generalize t.kind = x0, t.guest = x1, t.addr = x2, t.size = x3, t.value = x4, t.page = x5, t.on = x6, t.asid = x7, t.what = x8, t.set = x9, t.way = x10, t.fails = fb at *
  obtain ⟨n, hn⟩ : ∃ n, fa.length = n := ⟨_, rfl⟩
  obtain ⟨m, hm⟩ : ∃ n, fb.length = n := ⟨_, rfl⟩
  rw [hn] at hrA hl ⊢
  rw [hm] at hrB hl2 ⊢
  have HN := Lib.hid hn
  have HM := Lib.hid hm
  have HRA := Lib.hid hrA
  have HRB := Lib.hid hrB
  clear hn hm hrA hrB
  have hsz : (w.alloc (.cells #[.int .i64 a0, .int .i64 a1, .int .u64 a2, .int .i64 a3, .int .u64 a4, .int .i64 a5, .bool a6, .int .i64 a7, .int .i64 a8, .int .i64 a9, .int .i64 a10, .slice A n ca] 25)).heap.size = w.heap.size + 1 := by simp
  have HBX := Lib.hid (((Below.refl w.heap.size w).alloc (Nat.le_refl _) (.cells #[.int .i64 a0, .int .i64 a1, .int .u64 a2, .int .i64 a3, .int .u64 a4, .int .i64 a5, .bool a6, .int .i64 a7, .int .i64 a8, .int .i64 a9, .int .i64 a10, .slice A n ca] 25)).alloc (show w.heap.size ≤ _ from by simp) (.cells #[.int .i64 x0, .int .i64 x1, .int .u64 x2, .int .i64 x3, .int .u64 x4, .int .i64 x5, .bool x6, .int .i64 x7, .int .i64 x8, .int .i64 x9, .int .i64 x10, .slice B m cb] 25))
  have HS := Lib.hid (show Blk ((w.alloc (.cells #[.int .i64 a0, .int .i64 a1, .int .u64 a2, .int .i64 a3, .int .u64 a4, .int .i64 a5, .bool a6, .int .i64 a7, .int .i64 a8, .int .i64 a9, .int .i64 a10, .slice A n ca] 25)).alloc (.cells #[.int .i64 x0, .int .i64 x1, .int .u64 x2, .int .i64 x3, .int .u64 x4, .int .i64 x5, .bool x6, .int .i64 x7, .int .i64 x8, .int .i64 x9, .int .i64 x10, .slice B m cb] 25)) w.heap.size 25 #[.int .i64 a0, .int .i64 a1, .int .u64 a2, .int .i64 a3, .int .u64 a4, .int .i64 a5, .bool a6, .int .i64 a7, .int .i64 a8, .int .i64 a9, .int .i64 a10, .slice A n ca] from (Blk.new w _ _).alloc _)
  have HT := Lib.hid (show Blk ((w.alloc (.cells #[.int .i64 a0, .int .i64 a1, .int .u64 a2, .int .i64 a3, .int .u64 a4, .int .i64 a5, .bool a6, .int .i64 a7, .int .i64 a8, .int .i64 a9, .int .i64 a10, .slice A n ca] 25)).alloc (.cells #[.int .i64 x0, .int .i64 x1, .int .u64 x2, .int .i64 x3, .int .u64 x4, .int .i64 x5, .bool x6, .int .i64 x7, .int .i64 x8, .int .i64 x9, .int .i64 x10, .slice B m cb] 25)) (w.heap.size + 1) 25 #[.int .i64 x0, .int .i64 x1, .int .u64 x2, .int .i64 x3, .int .u64 x4, .int .i64 x5, .bool x6, .int .i64 x7, .int .i64 x8, .int .i64 x9, .int .i64 x10, .slice B m cb] from by rw [← hsz]; exact Blk.new _ _ _)
  clear hsz
  go_enter Tryd.func15, Tryd.ntmps15
  go_upto_region 1 with fail
  generalize (w.alloc (.cells #[.int .i64 a0, .int .i64 a1, .int .u64 a2, .int .i64 a3, .int .u64 a4, .int .i64 a5, .bool a6, .int .i64 a7, .int .i64 a8, .int .i64 a9, .int .i64 a10, .slice A n ca] 25)).alloc _ = w0 at *
  obtain ⟨B2, hB2⟩ : ∃ n, w.heap.size + 1 = n := ⟨_, rfl⟩
  have HB2 := Lib.hid (show B2 ≠ w.heap.size by omega)
  rw [hB2] at HT ⊢
  clear hB2
  have l11 := (HS.out.cell 11).trans rfl
  have m11 := (HT.out.cell 11).trans rfl
  by_cases hnm : n = m
  · subst hnm
    clear l11 m11
    have l11 := (HS.out.cell 11).trans rfl
    have m11 := (HT.out.cell 11).trans rfl
    have q0 : ((n : Int) != (n : Int)) = false := by simp
    go_wp2_with fail
    clear l11 m11
    go_loopw [5] (SmR w B2 #[.int .i64 a0, .int .i64 a1, .int .u64 a2, .int .i64 a3, .int .u64 a4, .int .i64 a5, .bool a6, .int .i64 a7, .int .i64 a8, .int .i64 a9, .int .i64 a10, .slice A n ca] #[.int .i64 x0, .int .i64 x1, .int .u64 x2, .int .i64 x3, .int .u64 x4, .int .i64 x5, .bool x6, .int .i64 x7, .int .i64 x8, .int .i64 x9, .int .i64 x10, .slice B n cb] fa fb) (fun v _ => n - cntZ v)
    case atStart => exact ⟨0, rfl, Nat.zero_le _, fun j hj => by omega, HS.out, HT.out, HBX.out⟩
    case round =>
      clear HS HT HBX
      obtain ⟨i, rfl, hi, hal, hS, hT, hbe⟩ := hrel
      have HS := Lib.hid hS
      have HT := Lib.hid hT
      have HBX := Lib.hid hbe
      have HAL := Lib.hid hal
      rw [HN.out] at hi
      clear hS hT hbe hal
      have l11 := (HS.out.cell 11).trans rfl
      have m11 := (HT.out.cell 11).trans rfl
      by_cases hin : i < n
      · have g1 : decide ((i : Int) < (n : Int)) = true := by simp; exact hin
        have g1' : decide (i < n) = true := by simp; exact hin
        obtain ⟨ad, u, hA, _, hu, hc⟩ := (HRA.out.below HBX.out).at_ hin
        obtain ⟨bd, v, hB, _, hv, hd⟩ := (HRB.out.below HBX.out).at_ hin
        obtain ⟨x, hx⟩ : ∃ x, fa[i]? = some x := ⟨_, List.getElem?_eq_getElem (by have := HN.out; omega)⟩
        obtain ⟨y, hy⟩ : ∃ x, fb[i]? = some x := ⟨_, List.getElem?_eq_getElem (by have := HM.out; omega)⟩
        have HX := Lib.hid hx
        have HY := Lib.hid hy
        rw [List.getElem?_map, hx] at hu
        rw [List.getElem?_map, hy] at hv
        obtain rfl : Value.bool x = u := by simpa using hu
        obtain rfl : Value.bool y = v := by simpa using hv
        subst hA hB
        clear hu hv hx hy
        cases x with
        | true =>
          cases y with
          | true =>
            go_upto_region 6 with fail
            go_quiet (fail)
            have HS2 := Lib.hid (HS.out.drewN nq)
            have HT2 := Lib.hid (HT.out.drewN nq)
            have HB3 := Lib.hid (below_drewN HBX.out nq)
            go_wp2
            refine ⟨⟨i + 1, by go_num, by rw [HN.out]; omega, fun j hj => ?_, HS2.out, HT2.out, HB3.out⟩, cntZ_lt hin⟩
            by_cases e : j = i
            · subst e
              rw [HX.out, HY.out]
            · exact HAL.out j (by omega)
          | false =>
            have HE := Lib.hid (show decide (fa = fb) = false from by
              rw [decide_eq_false_iff_not]
              rintro rfl
              have := HX.out.symm.trans HY.out
              cases this)
            go_upto_region 6 with fail
            go_quiet (fail)
            have HB3 := Lib.hid (below_drewN HBX.out nq)
            go_wp2
            go_ret
            exact ⟨by rw [HE.out]; rfl, HB3.out⟩
        | false =>
          cases y with
          | true =>
            have HE := Lib.hid (show decide (fa = fb) = false from by
              rw [decide_eq_false_iff_not]
              rintro rfl
              have := HX.out.symm.trans HY.out
              cases this)
            go_upto_region 6 with fail
            go_quiet (fail)
            have HB3 := Lib.hid (below_drewN HBX.out nq)
            go_wp2
            go_ret
            exact ⟨by rw [HE.out]; rfl, HB3.out⟩
          | false =>
            go_upto_region 6 with fail
            go_quiet (fail)
            have HS2 := Lib.hid (HS.out.drewN nq)
            have HT2 := Lib.hid (HT.out.drewN nq)
            have HB3 := Lib.hid (below_drewN HBX.out nq)
            go_wp2
            refine ⟨⟨i + 1, by go_num, by rw [HN.out]; omega, fun j hj => ?_, HS2.out, HT2.out, HB3.out⟩, cntZ_lt hin⟩
            by_cases e : j = i
            · subst e
              rw [HX.out, HY.out]
            · exact HAL.out j (by omega)
      · obtain rfl : i = n := by omega
        have g1 : decide ((i : Int) < (i : Int)) = false := by simp
        have HE := Lib.hid (show decide (fa = fb) = true from by
          rw [decide_eq_true_eq]
          refine List.ext_getElem? fun j => ?_
          by_cases e : j < i
          · exact HAL.out j e
          · rw [List.getElem?_eq_none (by have := HN.out; omega), List.getElem?_eq_none (by have := HM.out; omega)])
        go_upto_region 8 with fail
        rename_i hK
        have l0 := (HS.out.cell 0).trans rfl
        have m0 := (HT.out.cell 0).trans rfl
        have l1 := (HS.out.cell 1).trans rfl
        have m1 := (HT.out.cell 1).trans rfl
        have l2 := (HS.out.cell 2).trans rfl
        have m2 := (HT.out.cell 2).trans rfl
        have l3 := (HS.out.cell 3).trans rfl
        have m3 := (HT.out.cell 3).trans rfl
        have l4 := (HS.out.cell 4).trans rfl
        have m4 := (HT.out.cell 4).trans rfl
        have l5 := (HS.out.cell 5).trans rfl
        have m5 := (HT.out.cell 5).trans rfl
        have l6 := (HS.out.cell 6).trans rfl
        have m6 := (HT.out.cell 6).trans rfl
        have l7 := (HS.out.cell 7).trans rfl
        have m7 := (HT.out.cell 7).trans rfl
        have l8 := (HS.out.cell 8).trans rfl
        have m8 := (HT.out.cell 8).trans rfl
        have l9 := (HS.out.cell 9).trans rfl
        have m9 := (HT.out.cell 9).trans rfl
        have l10 := (HS.out.cell 10).trans rfl
        have m10 := (HT.out.cell 10).trans rfl
        apply wp_region_lit
        (try simp only [List.append_eq, List.cons_append, List.nil_append])
        refine wlV1 (v := .pointer (some ⟨w.heap.size, 0, none⟩)) (by kernel_rfl) (by kernel_rfl) ?_
        (try simp only [Act.put, List.setIfInBounds_toArray, List.set_cons_zero, List.set_cons_succ])
        refine wlV1 (v := .int .i64 a0) (by kernel_rfl) (by go_simp) ?_
        (try simp only [Act.put, List.setIfInBounds_toArray, List.set_cons_zero, List.set_cons_succ])
        refine wlV1 (v := .pointer (some ⟨B2, 0, none⟩)) (by kernel_rfl) (by kernel_rfl) ?_
        (try simp only [Act.put, List.setIfInBounds_toArray, List.set_cons_zero, List.set_cons_succ])
        refine wlV1 (v := .int .i64 x0) (by kernel_rfl) (by go_simp) ?_
        (try simp only [Act.put, List.setIfInBounds_toArray, List.set_cons_zero, List.set_cons_succ])
        refine wlV1 (v := .bool (a0 == x0)) (by kernel_rfl) (by kernel_rfl) ?_
        (try simp only [Act.put, List.setIfInBounds_toArray, List.set_cons_zero, List.set_cons_succ])
        obtain ⟨b1, hb1⟩ : ∃ b, (a0 == x0) = b := ⟨_, rfl⟩
        rw [hb1]
        refine wlV1 (v := .bool b1) (by kernel_rfl) (by kernel_rfl) ?_
        (try simp only [Act.put, List.setIfInBounds_toArray, List.set_cons_zero, List.set_cons_succ])
        refine wlV (c := b1) (v := .pointer (some ⟨w.heap.size, 1, none⟩)) (by cases b1 <;> kernel_rfl) (by intro hc9; subst hc9; kernel_rfl) ?_
        (try simp only [Act.put, List.setIfInBounds_toArray, List.set_cons_zero, List.set_cons_succ])
        refine wlV (c := b1) (v := .int .i64 a1) (by cases b1 <;> kernel_rfl) (by intro hc9; subst hc9; go_simp) ?_
        (try simp only [Act.put, List.setIfInBounds_toArray, List.set_cons_zero, List.set_cons_succ])
        refine wlV (c := b1) (v := .pointer (some ⟨B2, 1, none⟩)) (by cases b1 <;> kernel_rfl) (by intro hc9; subst hc9; kernel_rfl) ?_
        (try simp only [Act.put, List.setIfInBounds_toArray, List.set_cons_zero, List.set_cons_succ])
        refine wlV (c := b1) (v := .int .i64 x1) (by cases b1 <;> kernel_rfl) (by intro hc9; subst hc9; go_simp) ?_
        (try simp only [Act.put, List.setIfInBounds_toArray, List.set_cons_zero, List.set_cons_succ])
        refine wlV (c := b1) (v := .bool (a1 == x1)) (by cases b1 <;> kernel_rfl) (by intro hc9; subst hc9; kernel_rfl) ?_
        (try simp only [Act.put, List.setIfInBounds_toArray, List.set_cons_zero, List.set_cons_succ])
        refine wlV1 (v := .bool (b1 && (a1 == x1))) (by kernel_rfl) (by cases b1 <;> kernel_rfl) ?_
        (try simp only [Act.put, List.setIfInBounds_toArray, List.set_cons_zero, List.set_cons_succ])
        obtain ⟨b2, hb2⟩ : ∃ x, (b1 && (a1 == x1)) = x := ⟨_, rfl⟩
        rw [hb2]
        refine wlV1 (v := .bool b2) (by kernel_rfl) (by kernel_rfl) ?_
        (try simp only [Act.put, List.setIfInBounds_toArray, List.set_cons_zero, List.set_cons_succ])
        refine wlV (c := b2) (v := .pointer (some ⟨w.heap.size, 2, none⟩)) (by cases b2 <;> kernel_rfl) (by intro hc9; subst hc9; kernel_rfl) ?_
        (try simp only [Act.put, List.setIfInBounds_toArray, List.set_cons_zero, List.set_cons_succ])
        refine wlV (c := b2) (v := .int .u64 a2) (by cases b2 <;> kernel_rfl) (by intro hc9; subst hc9; go_simp) ?_
        (try simp only [Act.put, List.setIfInBounds_toArray, List.set_cons_zero, List.set_cons_succ])
        refine wlV (c := b2) (v := .pointer (some ⟨B2, 2, none⟩)) (by cases b2 <;> kernel_rfl) (by intro hc9; subst hc9; kernel_rfl) ?_
        (try simp only [Act.put, List.setIfInBounds_toArray, List.set_cons_zero, List.set_cons_succ])
        refine wlV (c := b2) (v := .int .u64 x2) (by cases b2 <;> kernel_rfl) (by intro hc9; subst hc9; go_simp) ?_
        (try simp only [Act.put, List.setIfInBounds_toArray, List.set_cons_zero, List.set_cons_succ])
        refine wlV (c := b2) (v := .bool (a2 == x2)) (by cases b2 <;> kernel_rfl) (by intro hc9; subst hc9; kernel_rfl) ?_
        (try simp only [Act.put, List.setIfInBounds_toArray, List.set_cons_zero, List.set_cons_succ])
        refine wlV1 (v := .bool (b2 && (a2 == x2))) (by kernel_rfl) (by cases b2 <;> kernel_rfl) ?_
        (try simp only [Act.put, List.setIfInBounds_toArray, List.set_cons_zero, List.set_cons_succ])
        obtain ⟨b3, hb3⟩ : ∃ x, (b2 && (a2 == x2)) = x := ⟨_, rfl⟩
        rw [hb3]
        refine wlV1 (v := .bool b3) (by kernel_rfl) (by kernel_rfl) ?_
        (try simp only [Act.put, List.setIfInBounds_toArray, List.set_cons_zero, List.set_cons_succ])
        refine wlV (c := b3) (v := .pointer (some ⟨w.heap.size, 3, none⟩)) (by cases b3 <;> kernel_rfl) (by intro hc9; subst hc9; kernel_rfl) ?_
        (try simp only [Act.put, List.setIfInBounds_toArray, List.set_cons_zero, List.set_cons_succ])
        refine wlV (c := b3) (v := .int .i64 a3) (by cases b3 <;> kernel_rfl) (by intro hc9; subst hc9; go_simp) ?_
        (try simp only [Act.put, List.setIfInBounds_toArray, List.set_cons_zero, List.set_cons_succ])
        refine wlV (c := b3) (v := .pointer (some ⟨B2, 3, none⟩)) (by cases b3 <;> kernel_rfl) (by intro hc9; subst hc9; kernel_rfl) ?_
        (try simp only [Act.put, List.setIfInBounds_toArray, List.set_cons_zero, List.set_cons_succ])
        refine wlV (c := b3) (v := .int .i64 x3) (by cases b3 <;> kernel_rfl) (by intro hc9; subst hc9; go_simp) ?_
        (try simp only [Act.put, List.setIfInBounds_toArray, List.set_cons_zero, List.set_cons_succ])
        refine wlV (c := b3) (v := .bool (a3 == x3)) (by cases b3 <;> kernel_rfl) (by intro hc9; subst hc9; kernel_rfl) ?_
        (try simp only [Act.put, List.setIfInBounds_toArray, List.set_cons_zero, List.set_cons_succ])
        refine wlV1 (v := .bool (b3 && (a3 == x3))) (by kernel_rfl) (by cases b3 <;> kernel_rfl) ?_
        (try simp only [Act.put, List.setIfInBounds_toArray, List.set_cons_zero, List.set_cons_succ])
        obtain ⟨b4, hb4⟩ : ∃ x, (b3 && (a3 == x3)) = x := ⟨_, rfl⟩
        rw [hb4]
        refine wlV1 (v := .bool b4) (by kernel_rfl) (by kernel_rfl) ?_
        (try simp only [Act.put, List.setIfInBounds_toArray, List.set_cons_zero, List.set_cons_succ])
        refine wlV (c := b4) (v := .pointer (some ⟨w.heap.size, 4, none⟩)) (by cases b4 <;> kernel_rfl) (by intro hc9; subst hc9; kernel_rfl) ?_
        (try simp only [Act.put, List.setIfInBounds_toArray, List.set_cons_zero, List.set_cons_succ])
        refine wlV (c := b4) (v := .int .u64 a4) (by cases b4 <;> kernel_rfl) (by intro hc9; subst hc9; go_simp) ?_
        (try simp only [Act.put, List.setIfInBounds_toArray, List.set_cons_zero, List.set_cons_succ])
        refine wlV (c := b4) (v := .pointer (some ⟨B2, 4, none⟩)) (by cases b4 <;> kernel_rfl) (by intro hc9; subst hc9; kernel_rfl) ?_
        (try simp only [Act.put, List.setIfInBounds_toArray, List.set_cons_zero, List.set_cons_succ])
        refine wlV (c := b4) (v := .int .u64 x4) (by cases b4 <;> kernel_rfl) (by intro hc9; subst hc9; go_simp) ?_
        (try simp only [Act.put, List.setIfInBounds_toArray, List.set_cons_zero, List.set_cons_succ])
        refine wlV (c := b4) (v := .bool (a4 == x4)) (by cases b4 <;> kernel_rfl) (by intro hc9; subst hc9; kernel_rfl) ?_
        (try simp only [Act.put, List.setIfInBounds_toArray, List.set_cons_zero, List.set_cons_succ])
        refine wlV1 (v := .bool (b4 && (a4 == x4))) (by kernel_rfl) (by cases b4 <;> kernel_rfl) ?_
        (try simp only [Act.put, List.setIfInBounds_toArray, List.set_cons_zero, List.set_cons_succ])
        obtain ⟨b5, hb5⟩ : ∃ x, (b4 && (a4 == x4)) = x := ⟨_, rfl⟩
        rw [hb5]
        refine wlV1 (v := .bool b5) (by kernel_rfl) (by kernel_rfl) ?_
        (try simp only [Act.put, List.setIfInBounds_toArray, List.set_cons_zero, List.set_cons_succ])
        refine wlV (c := b5) (v := .pointer (some ⟨w.heap.size, 5, none⟩)) (by cases b5 <;> kernel_rfl) (by intro hc9; subst hc9; kernel_rfl) ?_
        (try simp only [Act.put, List.setIfInBounds_toArray, List.set_cons_zero, List.set_cons_succ])
        refine wlV (c := b5) (v := .int .i64 a5) (by cases b5 <;> kernel_rfl) (by intro hc9; subst hc9; go_simp) ?_
        (try simp only [Act.put, List.setIfInBounds_toArray, List.set_cons_zero, List.set_cons_succ])
        refine wlV (c := b5) (v := .pointer (some ⟨B2, 5, none⟩)) (by cases b5 <;> kernel_rfl) (by intro hc9; subst hc9; kernel_rfl) ?_
        (try simp only [Act.put, List.setIfInBounds_toArray, List.set_cons_zero, List.set_cons_succ])
        refine wlV (c := b5) (v := .int .i64 x5) (by cases b5 <;> kernel_rfl) (by intro hc9; subst hc9; go_simp) ?_
        (try simp only [Act.put, List.setIfInBounds_toArray, List.set_cons_zero, List.set_cons_succ])
        refine wlV (c := b5) (v := .bool (a5 == x5)) (by cases b5 <;> kernel_rfl) (by intro hc9; subst hc9; kernel_rfl) ?_
        (try simp only [Act.put, List.setIfInBounds_toArray, List.set_cons_zero, List.set_cons_succ])
        refine wlV1 (v := .bool (b5 && (a5 == x5))) (by kernel_rfl) (by cases b5 <;> kernel_rfl) ?_
        (try simp only [Act.put, List.setIfInBounds_toArray, List.set_cons_zero, List.set_cons_succ])
        obtain ⟨b6, hb6⟩ : ∃ x, (b5 && (a5 == x5)) = x := ⟨_, rfl⟩
        rw [hb6]
        refine wlV1 (v := .bool b6) (by kernel_rfl) (by kernel_rfl) ?_
        (try simp only [Act.put, List.setIfInBounds_toArray, List.set_cons_zero, List.set_cons_succ])
        refine wlV (c := b6) (v := .pointer (some ⟨w.heap.size, 6, none⟩)) (by cases b6 <;> kernel_rfl) (by intro hc9; subst hc9; kernel_rfl) ?_
        (try simp only [Act.put, List.setIfInBounds_toArray, List.set_cons_zero, List.set_cons_succ])
        refine wlV (c := b6) (v := .bool a6) (by cases b6 <;> kernel_rfl) (by intro hc9; subst hc9; go_simp) ?_
        (try simp only [Act.put, List.setIfInBounds_toArray, List.set_cons_zero, List.set_cons_succ])
        refine wlV (c := b6) (v := .pointer (some ⟨B2, 6, none⟩)) (by cases b6 <;> kernel_rfl) (by intro hc9; subst hc9; kernel_rfl) ?_
        (try simp only [Act.put, List.setIfInBounds_toArray, List.set_cons_zero, List.set_cons_succ])
        refine wlV (c := b6) (v := .bool x6) (by cases b6 <;> kernel_rfl) (by intro hc9; subst hc9; go_simp) ?_
        (try simp only [Act.put, List.setIfInBounds_toArray, List.set_cons_zero, List.set_cons_succ])
        refine wlV (c := b6) (v := .bool (a6 == x6)) (by cases b6 <;> kernel_rfl) (by intro hc9; subst hc9; cases a6 <;> cases x6 <;> kernel_rfl) ?_
        (try simp only [Act.put, List.setIfInBounds_toArray, List.set_cons_zero, List.set_cons_succ])
        refine wlV1 (v := .bool (b6 && (a6 == x6))) (by kernel_rfl) (by cases b6 <;> kernel_rfl) ?_
        (try simp only [Act.put, List.setIfInBounds_toArray, List.set_cons_zero, List.set_cons_succ])
        obtain ⟨b7, hb7⟩ : ∃ x, (b6 && (a6 == x6)) = x := ⟨_, rfl⟩
        rw [hb7]
        refine wlV1 (v := .bool b7) (by kernel_rfl) (by kernel_rfl) ?_
        (try simp only [Act.put, List.setIfInBounds_toArray, List.set_cons_zero, List.set_cons_succ])
        refine wlV (c := b7) (v := .pointer (some ⟨w.heap.size, 7, none⟩)) (by cases b7 <;> kernel_rfl) (by intro hc9; subst hc9; kernel_rfl) ?_
        (try simp only [Act.put, List.setIfInBounds_toArray, List.set_cons_zero, List.set_cons_succ])
        refine wlV (c := b7) (v := .int .i64 a7) (by cases b7 <;> kernel_rfl) (by intro hc9; subst hc9; go_simp) ?_
        (try simp only [Act.put, List.setIfInBounds_toArray, List.set_cons_zero, List.set_cons_succ])
        refine wlV (c := b7) (v := .pointer (some ⟨B2, 7, none⟩)) (by cases b7 <;> kernel_rfl) (by intro hc9; subst hc9; kernel_rfl) ?_
        (try simp only [Act.put, List.setIfInBounds_toArray, List.set_cons_zero, List.set_cons_succ])
        refine wlV (c := b7) (v := .int .i64 x7) (by cases b7 <;> kernel_rfl) (by intro hc9; subst hc9; go_simp) ?_
        (try simp only [Act.put, List.setIfInBounds_toArray, List.set_cons_zero, List.set_cons_succ])
        refine wlV (c := b7) (v := .bool (a7 == x7)) (by cases b7 <;> kernel_rfl) (by intro hc9; subst hc9; kernel_rfl) ?_
        (try simp only [Act.put, List.setIfInBounds_toArray, List.set_cons_zero, List.set_cons_succ])
        refine wlV1 (v := .bool (b7 && (a7 == x7))) (by kernel_rfl) (by cases b7 <;> kernel_rfl) ?_
        (try simp only [Act.put, List.setIfInBounds_toArray, List.set_cons_zero, List.set_cons_succ])
        obtain ⟨b8, hb8⟩ : ∃ x, (b7 && (a7 == x7)) = x := ⟨_, rfl⟩
        rw [hb8]
        refine wlV1 (v := .bool b8) (by kernel_rfl) (by kernel_rfl) ?_
        (try simp only [Act.put, List.setIfInBounds_toArray, List.set_cons_zero, List.set_cons_succ])
        refine wlV (c := b8) (v := .pointer (some ⟨w.heap.size, 8, none⟩)) (by cases b8 <;> kernel_rfl) (by intro hc9; subst hc9; kernel_rfl) ?_
        (try simp only [Act.put, List.setIfInBounds_toArray, List.set_cons_zero, List.set_cons_succ])
        refine wlV (c := b8) (v := .int .i64 a8) (by cases b8 <;> kernel_rfl) (by intro hc9; subst hc9; go_simp) ?_
        (try simp only [Act.put, List.setIfInBounds_toArray, List.set_cons_zero, List.set_cons_succ])
        refine wlV (c := b8) (v := .pointer (some ⟨B2, 8, none⟩)) (by cases b8 <;> kernel_rfl) (by intro hc9; subst hc9; kernel_rfl) ?_
        (try simp only [Act.put, List.setIfInBounds_toArray, List.set_cons_zero, List.set_cons_succ])
        refine wlV (c := b8) (v := .int .i64 x8) (by cases b8 <;> kernel_rfl) (by intro hc9; subst hc9; go_simp) ?_
        (try simp only [Act.put, List.setIfInBounds_toArray, List.set_cons_zero, List.set_cons_succ])
        refine wlV (c := b8) (v := .bool (a8 == x8)) (by cases b8 <;> kernel_rfl) (by intro hc9; subst hc9; kernel_rfl) ?_
        (try simp only [Act.put, List.setIfInBounds_toArray, List.set_cons_zero, List.set_cons_succ])
        refine wlV1 (v := .bool (b8 && (a8 == x8))) (by kernel_rfl) (by cases b8 <;> kernel_rfl) ?_
        (try simp only [Act.put, List.setIfInBounds_toArray, List.set_cons_zero, List.set_cons_succ])
        obtain ⟨b9, hb9⟩ : ∃ x, (b8 && (a8 == x8)) = x := ⟨_, rfl⟩
        rw [hb9]
        refine wlV1 (v := .bool b9) (by kernel_rfl) (by kernel_rfl) ?_
        (try simp only [Act.put, List.setIfInBounds_toArray, List.set_cons_zero, List.set_cons_succ])
        refine wlV (c := b9) (v := .pointer (some ⟨w.heap.size, 9, none⟩)) (by cases b9 <;> kernel_rfl) (by intro hc9; subst hc9; kernel_rfl) ?_
        (try simp only [Act.put, List.setIfInBounds_toArray, List.set_cons_zero, List.set_cons_succ])
        refine wlV (c := b9) (v := .int .i64 a9) (by cases b9 <;> kernel_rfl) (by intro hc9; subst hc9; go_simp) ?_
        (try simp only [Act.put, List.setIfInBounds_toArray, List.set_cons_zero, List.set_cons_succ])
        refine wlV (c := b9) (v := .pointer (some ⟨B2, 9, none⟩)) (by cases b9 <;> kernel_rfl) (by intro hc9; subst hc9; kernel_rfl) ?_
        (try simp only [Act.put, List.setIfInBounds_toArray, List.set_cons_zero, List.set_cons_succ])
        refine wlV (c := b9) (v := .int .i64 x9) (by cases b9 <;> kernel_rfl) (by intro hc9; subst hc9; go_simp) ?_
        (try simp only [Act.put, List.setIfInBounds_toArray, List.set_cons_zero, List.set_cons_succ])
        refine wlV (c := b9) (v := .bool (a9 == x9)) (by cases b9 <;> kernel_rfl) (by intro hc9; subst hc9; kernel_rfl) ?_
        (try simp only [Act.put, List.setIfInBounds_toArray, List.set_cons_zero, List.set_cons_succ])
        refine wlV1 (v := .bool (b9 && (a9 == x9))) (by kernel_rfl) (by cases b9 <;> kernel_rfl) ?_
        (try simp only [Act.put, List.setIfInBounds_toArray, List.set_cons_zero, List.set_cons_succ])
        obtain ⟨b10, hb10⟩ : ∃ x, (b9 && (a9 == x9)) = x := ⟨_, rfl⟩
        rw [hb10]
        refine wlV1 (v := .bool b10) (by kernel_rfl) (by kernel_rfl) ?_
        (try simp only [Act.put, List.setIfInBounds_toArray, List.set_cons_zero, List.set_cons_succ])
        refine wlV (c := b10) (v := .pointer (some ⟨w.heap.size, 10, none⟩)) (by cases b10 <;> kernel_rfl) (by intro hc9; subst hc9; kernel_rfl) ?_
        (try simp only [Act.put, List.setIfInBounds_toArray, List.set_cons_zero, List.set_cons_succ])
        refine wlV (c := b10) (v := .int .i64 a10) (by cases b10 <;> kernel_rfl) (by intro hc9; subst hc9; go_simp) ?_
        (try simp only [Act.put, List.setIfInBounds_toArray, List.set_cons_zero, List.set_cons_succ])
        refine wlV (c := b10) (v := .pointer (some ⟨B2, 10, none⟩)) (by cases b10 <;> kernel_rfl) (by intro hc9; subst hc9; kernel_rfl) ?_
        (try simp only [Act.put, List.setIfInBounds_toArray, List.set_cons_zero, List.set_cons_succ])
        refine wlV (c := b10) (v := .int .i64 x10) (by cases b10 <;> kernel_rfl) (by intro hc9; subst hc9; go_simp) ?_
        (try simp only [Act.put, List.setIfInBounds_toArray, List.set_cons_zero, List.set_cons_succ])
        refine wlV (c := b10) (v := .bool (a10 == x10)) (by cases b10 <;> kernel_rfl) (by intro hc9; subst hc9; kernel_rfl) ?_
        (try simp only [Act.put, List.setIfInBounds_toArray, List.set_cons_zero, List.set_cons_succ])
        refine wlV1 (v := .bool (b10 && (a10 == x10))) (by kernel_rfl) (by cases b10 <;> kernel_rfl) ?_
        (try simp only [Act.put, List.setIfInBounds_toArray, List.set_cons_zero, List.set_cons_succ])
        obtain ⟨b11, hb11⟩ : ∃ x, (b10 && (a10 == x10)) = x := ⟨_, rfl⟩
        rw [hb11]
        refine wlV1 (v := .bool b11) (by kernel_rfl) (by kernel_rfl) ?_
        (try simp only [Act.put, List.setIfInBounds_toArray, List.set_cons_zero, List.set_cons_succ])
        refine wpList_nil ?_
        refine hK _ _ ?_
        go_wp2
        go_ret
        refine ⟨?_, HBX.out⟩
        rw [HE.out, Bool.true_and, ← hb11, ← hb10, ← hb9, ← hb8, ← hb7, ← hb6, ← hb5, ← hb4, ← hb3, ← hb2, ← hb1]
        rfl
  · have q0 : ((n : Int) != (m : Int)) = true := by simp; omega
    have HE := Lib.hid (show decide (fa = fb) = false from by
      rw [decide_eq_false_iff_not]
      rintro rfl
      exact hnm (HN.out.symm.trans HM.out))
    go_wp2
    go_ret
    exact ⟨by rw [HE.out]; rfl, HBX.out⟩
end Go.Proofs.YtjofegjiakjjhaaDoor
