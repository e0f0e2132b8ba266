import Derived.Test.YtjofegjiakjjhaaDoorMSch
import Derived.Test.YtjofegjiakjjhaaDoorChecked
import Derived.WalkKit
import Derived.Deep.DeepCutAuto
/- Script, the document's own: what 'rest' says. -/
namespace Go.Proofs.YtjofegjiakjjhaaDoor

def restB (s : St) (f : Bs) : Bool := (f.contains 103 || s.guest == 0) && (f.contains 120 || s.addr == 0) && (f.contains 115 || s.size == 0) && (f.contains 119 || s.way == 0) && (f.contains 118 || s.value == 0) && (f.contains 111 || f.contains 109 || !s.on) && (f.contains 102 || s.what == 0) && (f.contains 97 || s.asid == 0) && (f.contains 112 || s.page == 0) && (f.contains 101 || s.set == 0) && (f.contains 98 || s.fails.isEmpty)
end Go.Proofs.YtjofegjiakjjhaaDoor
/- A long statement of '&&' and '||' walked in one line: a guarded operation is not parted. -/
namespace Go.Proofs.YtjofegjiakjjhaaDoor
section
variable {P : Program} {ops : Array Oper} {Q : Exit → Act → World → Prop} {a : Act} {w : World} {rest : List Oper} {o : Oper}
theorem wlV {c : Bool} {v : Value} (hw : Region.wanted o (yielded ops a.tmps) = c) (hy : c = true → (execOp a.eval o).run P w = .ok (.value v) w) (hk : wpList P ops Q rest (a.put o.dst (cond c v undef)) w) : wpList P ops Q (o :: rest) a w := by
  unfold wpList
  cases c with
  | true =>
    rw [if_pos hw]
    exact .inl (show Oper.upon P o a _ Q ((execOp a.eval o).run P w) from by rw [hy rfl]; exact hk)
  | false =>
    rw [if_neg (by rw [hw]; simp)]
    exact hk
theorem wlV1 {v : Value} (hw : Region.wanted o (yielded ops a.tmps) = true) (hy : (execOp a.eval o).run P w = .ok (.value v) w) (hk : wpList P ops Q rest (a.put o.dst v) w) : wpList P ops Q (o :: rest) a w :=
  wlV hw (fun _ => hy) hk
theorem wlC {c : Bool} {v : Value} {f : FuncId} {args : Array Value} (hw : Region.wanted o (yielded ops a.tmps) = c) (hy : c = true → (execOp a.eval o).run P w = .ok (.enter f args) w) (hc : Calls P f args w fun e w' => e = .returned v ∧ w = w') (hk : wpList P ops Q rest (a.put o.dst (cond c v undef)) w) : wpList P ops Q (o :: rest) a w := by
  unfold wpList
  cases c with
  | true =>
    rw [if_pos hw]
    refine .inl (show Oper.upon P o a _ Q ((execOp a.eval o).run P w) from ?_)
    rw [hy rfl, Oper.upon_enter]
    exact hc.mono fun e w' h => by obtain ⟨rfl, rfl⟩ := h; exact hk
  | false =>
    rw [if_neg (by rw [hw]; simp)]
    exact hk
theorem wlC1 {v : Value} {f : FuncId} {args : Array Value} (hw : Region.wanted o (yielded ops a.tmps) = true) (hy : (execOp a.eval o).run P w = .ok (.enter f args) w) (hc : Calls P f args w fun e w' => e = .returned v ∧ w = w') (hk : wpList P ops Q rest (a.put o.dst v) w) : wpList P ops Q (o :: rest) a w :=
  wlC hw (fun _ => hy) hc hk
end
end Go.Proofs.YtjofegjiakjjhaaDoor
/- Script, the document's own: rest. -/
namespace Go.Proofs.YtjofegjiakjjhaaDoor
open Go.RowKit Go.Lib

set_option maxRecDepth 20000 in
set_option maxHeartbeats 8000000 in
theorem rrest (s : St) (A : Option Addr) (cc : Nat) (f : Bs) (hfl : f.length ≤ 1000) (w : World) :
    Calls Tryd.prog 28 #[.agg (stC s (.slice A s.fails.length cc)), bv f] w fun e w' => e = .returned (.bool (restB s f)) ∧ Below w.heap.size w w' := by
  have hbx := fun (cs : Array Value) => (Below.refl w.heap.size w).alloc (Nat.le_refl _) (.cells cs 25)
  obtain ⟨h103, e103⟩ : ∃ b, f.contains 103 = b := ⟨_, rfl⟩
  have H103 := Lib.hid (fun w => (rhas f 103 hfl w).mono fun e w' h => (show e = .returned (.bool h103) ∧ w = w' from by rw [← e103]; exact h))
  obtain ⟨h120, e120⟩ : ∃ b, f.contains 120 = b := ⟨_, rfl⟩
  have H120 := Lib.hid (fun w => (rhas f 120 hfl w).mono fun e w' h => (show e = .returned (.bool h120) ∧ w = w' from by rw [← e120]; exact h))
  obtain ⟨h115, e115⟩ : ∃ b, f.contains 115 = b := ⟨_, rfl⟩
  have H115 := Lib.hid (fun w => (rhas f 115 hfl w).mono fun e w' h => (show e = .returned (.bool h115) ∧ w = w' from by rw [← e115]; exact h))
  obtain ⟨h119, e119⟩ : ∃ b, f.contains 119 = b := ⟨_, rfl⟩
  have H119 := Lib.hid (fun w => (rhas f 119 hfl w).mono fun e w' h => (show e = .returned (.bool h119) ∧ w = w' from by rw [← e119]; exact h))
  obtain ⟨h118, e118⟩ : ∃ b, f.contains 118 = b := ⟨_, rfl⟩
  have H118 := Lib.hid (fun w => (rhas f 118 hfl w).mono fun e w' h => (show e = .returned (.bool h118) ∧ w = w' from by rw [← e118]; exact h))
  obtain ⟨h111, e111⟩ : ∃ b, f.contains 111 = b := ⟨_, rfl⟩
  have H111 := Lib.hid (fun w => (rhas f 111 hfl w).mono fun e w' h => (show e = .returned (.bool h111) ∧ w = w' from by rw [← e111]; exact h))
  obtain ⟨h109, e109⟩ : ∃ b, f.contains 109 = b := ⟨_, rfl⟩
  have H109 := Lib.hid (fun w => (rhas f 109 hfl w).mono fun e w' h => (show e = .returned (.bool h109) ∧ w = w' from by rw [← e109]; exact h))
  obtain ⟨h102, e102⟩ : ∃ b, f.contains 102 = b := ⟨_, rfl⟩
  have H102 := Lib.hid (fun w => (rhas f 102 hfl w).mono fun e w' h => (show e = .returned (.bool h102) ∧ w = w' from by rw [← e102]; exact h))
  obtain ⟨h97, e97⟩ : ∃ b, f.contains 97 = b := ⟨_, rfl⟩
  have H97 := Lib.hid (fun w => (rhas f 97 hfl w).mono fun e w' h => (show e = .returned (.bool h97) ∧ w = w' from by rw [← e97]; exact h))
  obtain ⟨h112, e112⟩ : ∃ b, f.contains 112 = b := ⟨_, rfl⟩
  have H112 := Lib.hid (fun w => (rhas f 112 hfl w).mono fun e w' h => (show e = .returned (.bool h112) ∧ w = w' from by rw [← e112]; exact h))
  obtain ⟨h101, e101⟩ : ∃ b, f.contains 101 = b := ⟨_, rfl⟩
  have H101 := Lib.hid (fun w => (rhas f 101 hfl w).mono fun e w' h => (show e = .returned (.bool h101) ∧ w = w' from by rw [← e101]; exact h))
  obtain ⟨h98, e98⟩ : ∃ b, f.contains 98 = b := ⟨_, rfl⟩
  have H98 := Lib.hid (fun w => (rhas f 98 hfl w).mono fun e w' h => (show e = .returned (.bool h98) ∧ w = w' from by rw [← e98]; exact h))
  have HR := Lib.hid (show restB s f = ((h103 || s.guest == 0) && (h120 || s.addr == 0) && (h115 || s.size == 0) && (h119 || s.way == 0) && (h118 || s.value == 0) && (h111 || h109 || !s.on) && (h102 || s.what == 0) && (h97 || s.asid == 0) && (h112 || s.page == 0) && (h101 || s.set == 0) && (h98 || s.fails.isEmpty)) from by unfold restB; rw [e103, e120, e115, e119, e118, e111, e109, e102, e97, e112, e101, e98])
  clear e103 e120 e115 e119 e118 e111 e109 e102 e97 e112 e101 e98 hfl
  rw [HR.out]
  clear HR
  unfold stC
  generalize s.kind = a0, s.guest = a1, s.addr = a2, s.size = a3, s.value = a4, s.page = a5, s.on = a6, s.asid = a7, s.what = a8, s.set = a9, s.way = a10, s.fails = l
  obtain ⟨n, hn⟩ : ∃ n, l.length = n := ⟨_, rfl⟩
  obtain ⟨zn, hzn⟩ : ∃ z, l.isEmpty = z := ⟨_, rfl⟩
  have HN := Lib.hid (show ((n : Int) == 0) = zn from by subst hn; subst hzn; cases l <;> simp; omega)
  rw [hn, hzn]
  clear hn hzn
  go_enter Tryd.func28, Tryd.ntmps28
  go_upto_region 1 with fail
  rename_i hK
  generalize hW : w.alloc _ = w0
  have l1 : w0.cell? ⟨w.heap.size, 1, none⟩ = some (.int .i64 a1) := by subst hW; exact World.cell?_alloc_at _ _ _ _ (by simp)
  have l2 : w0.cell? ⟨w.heap.size, 2, none⟩ = some (.int .u64 a2) := by subst hW; exact World.cell?_alloc_at _ _ _ _ (by simp)
  have l3 : w0.cell? ⟨w.heap.size, 3, none⟩ = some (.int .i64 a3) := by subst hW; exact World.cell?_alloc_at _ _ _ _ (by simp)
  have l10 : w0.cell? ⟨w.heap.size, 10, none⟩ = some (.int .i64 a10) := by subst hW; exact World.cell?_alloc_at _ _ _ _ (by simp)
  have l4 : w0.cell? ⟨w.heap.size, 4, none⟩ = some (.int .u64 a4) := by subst hW; exact World.cell?_alloc_at _ _ _ _ (by simp)
  have l6 : w0.cell? ⟨w.heap.size, 6, none⟩ = some (.bool a6) := by subst hW; exact World.cell?_alloc_at _ _ _ _ (by simp)
  have l8 : w0.cell? ⟨w.heap.size, 8, none⟩ = some (.int .i64 a8) := by subst hW; exact World.cell?_alloc_at _ _ _ _ (by simp)
  have l7 : w0.cell? ⟨w.heap.size, 7, none⟩ = some (.int .i64 a7) := by subst hW; exact World.cell?_alloc_at _ _ _ _ (by simp)
  have l5 : w0.cell? ⟨w.heap.size, 5, none⟩ = some (.int .i64 a5) := by subst hW; exact World.cell?_alloc_at _ _ _ _ (by simp)
  have l9 : w0.cell? ⟨w.heap.size, 9, none⟩ = some (.int .i64 a9) := by subst hW; exact World.cell?_alloc_at _ _ _ _ (by simp)
  have l11 : w0.cell? ⟨w.heap.size, 11, none⟩ = some (.slice A n cc) := by subst hW; exact World.cell?_alloc_at _ _ _ _ (by simp)
  have hbw : Below w.heap.size w w0 := by subst hW; exact hbx _
  clear hW hbx
  apply wp_region_lit
  simp only [List.append_eq, List.cons_append, List.nil_append]
  refine wlV1 (v := bv f) (by kernel_rfl) (by kernel_rfl) ?_
  (try simp only [Act.put, List.setIfInBounds_toArray, List.set_cons_zero, List.set_cons_succ])
  refine wlC1 (v := .bool h103) (by kernel_rfl) (by kernel_rfl) (H103.out _) ?_
  (try simp only [Act.put, List.setIfInBounds_toArray, List.set_cons_zero, List.set_cons_succ])
  refine wlV1 (v := .bool h103) (by kernel_rfl) (by kernel_rfl) ?_
  (try simp only [Act.put, List.setIfInBounds_toArray, List.set_cons_zero, List.set_cons_succ])
  obtain ⟨c1, hc1⟩ : ∃ c, (!h103) = c := ⟨_, rfl⟩
  refine wlV (c := c1) (v := .pointer (some ⟨w.heap.size, 1, none⟩)) (by subst hc1; cases h103 <;> kernel_rfl) (by intro hc9; subst hc9; kernel_rfl) ?_
  (try simp only [Act.put, List.setIfInBounds_toArray, List.set_cons_zero, List.set_cons_succ])
  refine wlV (c := c1) (v := .int .i64 a1) (by subst hc1; cases h103 <;> kernel_rfl) (by intro hc9; subst hc9; go_simp) ?_
  (try simp only [Act.put, List.setIfInBounds_toArray, List.set_cons_zero, List.set_cons_succ])
  refine wlV (c := c1) (v := .bool (a1 == 0)) (by subst hc1; cases h103 <;> kernel_rfl) (by intro hc9; subst hc9; kernel_rfl) ?_
  (try simp only [Act.put, List.setIfInBounds_toArray, List.set_cons_zero, List.set_cons_succ])
  refine wlV1 (v := .bool (h103 || (a1 == 0))) (by kernel_rfl) (by subst hc1; cases h103 <;> kernel_rfl) ?_
  (try simp only [Act.put, List.setIfInBounds_toArray, List.set_cons_zero, List.set_cons_succ])
  obtain ⟨b1, hb1⟩ : ∃ b, (h103 || (a1 == 0)) = b := ⟨_, rfl⟩
  rw [hb1]
  refine wlV1 (v := .bool b1) (by kernel_rfl) (by kernel_rfl) ?_
  (try simp only [Act.put, List.setIfInBounds_toArray, List.set_cons_zero, List.set_cons_succ])
  refine wlV (c := b1) (v := bv f) (by cases b1 <;> kernel_rfl) (by intro hc9; subst hc9; kernel_rfl) ?_
  (try simp only [Act.put, List.setIfInBounds_toArray, List.set_cons_zero, List.set_cons_succ])
  refine wlC (c := b1) (v := .bool h120) (by cases b1 <;> kernel_rfl) (by intro hc9; subst hc9; kernel_rfl) (H120.out _) ?_
  (try simp only [Act.put, List.setIfInBounds_toArray, List.set_cons_zero, List.set_cons_succ])
  refine wlV (c := b1) (v := .bool h120) (by cases b1 <;> kernel_rfl) (by intro hc9; subst hc9; kernel_rfl) ?_
  (try simp only [Act.put, List.setIfInBounds_toArray, List.set_cons_zero, List.set_cons_succ])
  obtain ⟨c2, hc2⟩ : ∃ c, (b1 && !h120) = c := ⟨_, rfl⟩
  refine wlV (c := c2) (v := .pointer (some ⟨w.heap.size, 2, none⟩)) (by subst hc2; cases b1 <;> cases h120 <;> kernel_rfl) (by intro hc9; subst hc9; kernel_rfl) ?_
  (try simp only [Act.put, List.setIfInBounds_toArray, List.set_cons_zero, List.set_cons_succ])
  refine wlV (c := c2) (v := .int .u64 a2) (by subst hc2; cases b1 <;> cases h120 <;> kernel_rfl) (by intro hc9; subst hc9; go_simp) ?_
  (try simp only [Act.put, List.setIfInBounds_toArray, List.set_cons_zero, List.set_cons_succ])
  refine wlV (c := c2) (v := .bool (a2 == 0)) (by subst hc2; cases b1 <;> cases h120 <;> kernel_rfl) (by intro hc9; subst hc9; kernel_rfl) ?_
  (try simp only [Act.put, List.setIfInBounds_toArray, List.set_cons_zero, List.set_cons_succ])
  refine wlV (c := b1) (v := .bool (h120 || (a2 == 0))) (by cases b1 <;> kernel_rfl) (by intro hc9; subst hc9; subst hc2; cases h120 <;> kernel_rfl) ?_
  (try simp only [Act.put, List.setIfInBounds_toArray, List.set_cons_zero, List.set_cons_succ])
  refine wlV1 (v := .bool (b1 && (h120 || (a2 == 0)))) (by kernel_rfl) (by cases b1 <;> kernel_rfl) ?_
  (try simp only [Act.put, List.setIfInBounds_toArray, List.set_cons_zero, List.set_cons_succ])
  obtain ⟨b2, hb2⟩ : ∃ x, (b1 && (h120 || (a2 == 0))) = x := ⟨_, rfl⟩
  rw [hb2]
  refine wlV1 (v := .bool b2) (by kernel_rfl) (by kernel_rfl) ?_
  (try simp only [Act.put, List.setIfInBounds_toArray, List.set_cons_zero, List.set_cons_succ])
  refine wlV (c := b2) (v := bv f) (by cases b2 <;> kernel_rfl) (by intro hc9; subst hc9; kernel_rfl) ?_
  (try simp only [Act.put, List.setIfInBounds_toArray, List.set_cons_zero, List.set_cons_succ])
  refine wlC (c := b2) (v := .bool h115) (by cases b2 <;> kernel_rfl) (by intro hc9; subst hc9; kernel_rfl) (H115.out _) ?_
  (try simp only [Act.put, List.setIfInBounds_toArray, List.set_cons_zero, List.set_cons_succ])
  refine wlV (c := b2) (v := .bool h115) (by cases b2 <;> kernel_rfl) (by intro hc9; subst hc9; kernel_rfl) ?_
  (try simp only [Act.put, List.setIfInBounds_toArray, List.set_cons_zero, List.set_cons_succ])
  obtain ⟨c3, hc3⟩ : ∃ c, (b2 && !h115) = c := ⟨_, rfl⟩
  refine wlV (c := c3) (v := .pointer (some ⟨w.heap.size, 3, none⟩)) (by subst hc3; cases b2 <;> cases h115 <;> kernel_rfl) (by intro hc9; subst hc9; kernel_rfl) ?_
  (try simp only [Act.put, List.setIfInBounds_toArray, List.set_cons_zero, List.set_cons_succ])
  refine wlV (c := c3) (v := .int .i64 a3) (by subst hc3; cases b2 <;> cases h115 <;> kernel_rfl) (by intro hc9; subst hc9; go_simp) ?_
  (try simp only [Act.put, List.setIfInBounds_toArray, List.set_cons_zero, List.set_cons_succ])
  refine wlV (c := c3) (v := .bool (a3 == 0)) (by subst hc3; cases b2 <;> cases h115 <;> kernel_rfl) (by intro hc9; subst hc9; kernel_rfl) ?_
  (try simp only [Act.put, List.setIfInBounds_toArray, List.set_cons_zero, List.set_cons_succ])
  refine wlV (c := b2) (v := .bool (h115 || (a3 == 0))) (by cases b2 <;> kernel_rfl) (by intro hc9; subst hc9; subst hc3; cases h115 <;> kernel_rfl) ?_
  (try simp only [Act.put, List.setIfInBounds_toArray, List.set_cons_zero, List.set_cons_succ])
  refine wlV1 (v := .bool (b2 && (h115 || (a3 == 0)))) (by kernel_rfl) (by cases b2 <;> kernel_rfl) ?_
  (try simp only [Act.put, List.setIfInBounds_toArray, List.set_cons_zero, List.set_cons_succ])
  obtain ⟨b3, hb3⟩ : ∃ x, (b2 && (h115 || (a3 == 0))) = x := ⟨_, rfl⟩
  rw [hb3]
  refine wlV1 (v := .bool b3) (by kernel_rfl) (by kernel_rfl) ?_
  (try simp only [Act.put, List.setIfInBounds_toArray, List.set_cons_zero, List.set_cons_succ])
  refine wlV (c := b3) (v := bv f) (by cases b3 <;> kernel_rfl) (by intro hc9; subst hc9; kernel_rfl) ?_
  (try simp only [Act.put, List.setIfInBounds_toArray, List.set_cons_zero, List.set_cons_succ])
  refine wlC (c := b3) (v := .bool h119) (by cases b3 <;> kernel_rfl) (by intro hc9; subst hc9; kernel_rfl) (H119.out _) ?_
  (try simp only [Act.put, List.setIfInBounds_toArray, List.set_cons_zero, List.set_cons_succ])
  refine wlV (c := b3) (v := .bool h119) (by cases b3 <;> kernel_rfl) (by intro hc9; subst hc9; kernel_rfl) ?_
  (try simp only [Act.put, List.setIfInBounds_toArray, List.set_cons_zero, List.set_cons_succ])
  obtain ⟨c4, hc4⟩ : ∃ c, (b3 && !h119) = c := ⟨_, rfl⟩
  refine wlV (c := c4) (v := .pointer (some ⟨w.heap.size, 10, none⟩)) (by subst hc4; cases b3 <;> cases h119 <;> kernel_rfl) (by intro hc9; subst hc9; kernel_rfl) ?_
  (try simp only [Act.put, List.setIfInBounds_toArray, List.set_cons_zero, List.set_cons_succ])
  refine wlV (c := c4) (v := .int .i64 a10) (by subst hc4; cases b3 <;> cases h119 <;> kernel_rfl) (by intro hc9; subst hc9; go_simp) ?_
  (try simp only [Act.put, List.setIfInBounds_toArray, List.set_cons_zero, List.set_cons_succ])
  refine wlV (c := c4) (v := .bool (a10 == 0)) (by subst hc4; cases b3 <;> cases h119 <;> kernel_rfl) (by intro hc9; subst hc9; kernel_rfl) ?_
  (try simp only [Act.put, List.setIfInBounds_toArray, List.set_cons_zero, List.set_cons_succ])
  refine wlV (c := b3) (v := .bool (h119 || (a10 == 0))) (by cases b3 <;> kernel_rfl) (by intro hc9; subst hc9; subst hc4; cases h119 <;> kernel_rfl) ?_
  (try simp only [Act.put, List.setIfInBounds_toArray, List.set_cons_zero, List.set_cons_succ])
  refine wlV1 (v := .bool (b3 && (h119 || (a10 == 0)))) (by kernel_rfl) (by cases b3 <;> kernel_rfl) ?_
  (try simp only [Act.put, List.setIfInBounds_toArray, List.set_cons_zero, List.set_cons_succ])
  obtain ⟨b4, hb4⟩ : ∃ x, (b3 && (h119 || (a10 == 0))) = x := ⟨_, rfl⟩
  rw [hb4]
  refine wlV1 (v := .bool b4) (by kernel_rfl) (by kernel_rfl) ?_
  (try simp only [Act.put, List.setIfInBounds_toArray, List.set_cons_zero, List.set_cons_succ])
  refine wlV (c := b4) (v := bv f) (by cases b4 <;> kernel_rfl) (by intro hc9; subst hc9; kernel_rfl) ?_
  (try simp only [Act.put, List.setIfInBounds_toArray, List.set_cons_zero, List.set_cons_succ])
  refine wlC (c := b4) (v := .bool h118) (by cases b4 <;> kernel_rfl) (by intro hc9; subst hc9; kernel_rfl) (H118.out _) ?_
  (try simp only [Act.put, List.setIfInBounds_toArray, List.set_cons_zero, List.set_cons_succ])
  refine wlV (c := b4) (v := .bool h118) (by cases b4 <;> kernel_rfl) (by intro hc9; subst hc9; kernel_rfl) ?_
  (try simp only [Act.put, List.setIfInBounds_toArray, List.set_cons_zero, List.set_cons_succ])
  obtain ⟨c5, hc5⟩ : ∃ c, (b4 && !h118) = c := ⟨_, rfl⟩
  refine wlV (c := c5) (v := .pointer (some ⟨w.heap.size, 4, none⟩)) (by subst hc5; cases b4 <;> cases h118 <;> kernel_rfl) (by intro hc9; subst hc9; kernel_rfl) ?_
  (try simp only [Act.put, List.setIfInBounds_toArray, List.set_cons_zero, List.set_cons_succ])
  refine wlV (c := c5) (v := .int .u64 a4) (by subst hc5; cases b4 <;> cases h118 <;> kernel_rfl) (by intro hc9; subst hc9; go_simp) ?_
  (try simp only [Act.put, List.setIfInBounds_toArray, List.set_cons_zero, List.set_cons_succ])
  refine wlV (c := c5) (v := .bool (a4 == 0)) (by subst hc5; cases b4 <;> cases h118 <;> kernel_rfl) (by intro hc9; subst hc9; kernel_rfl) ?_
  (try simp only [Act.put, List.setIfInBounds_toArray, List.set_cons_zero, List.set_cons_succ])
  refine wlV (c := b4) (v := .bool (h118 || (a4 == 0))) (by cases b4 <;> kernel_rfl) (by intro hc9; subst hc9; subst hc5; cases h118 <;> kernel_rfl) ?_
  (try simp only [Act.put, List.setIfInBounds_toArray, List.set_cons_zero, List.set_cons_succ])
  refine wlV1 (v := .bool (b4 && (h118 || (a4 == 0)))) (by kernel_rfl) (by cases b4 <;> kernel_rfl) ?_
  (try simp only [Act.put, List.setIfInBounds_toArray, List.set_cons_zero, List.set_cons_succ])
  obtain ⟨b5, hb5⟩ : ∃ x, (b4 && (h118 || (a4 == 0))) = x := ⟨_, rfl⟩
  rw [hb5]
  refine wlV1 (v := .bool b5) (by kernel_rfl) (by kernel_rfl) ?_
  (try simp only [Act.put, List.setIfInBounds_toArray, List.set_cons_zero, List.set_cons_succ])
  refine wlV (c := b5) (v := bv f) (by cases b5 <;> kernel_rfl) (by intro hc9; subst hc9; kernel_rfl) ?_
  (try simp only [Act.put, List.setIfInBounds_toArray, List.set_cons_zero, List.set_cons_succ])
  refine wlC (c := b5) (v := .bool h111) (by cases b5 <;> kernel_rfl) (by intro hc9; subst hc9; kernel_rfl) (H111.out _) ?_
  (try simp only [Act.put, List.setIfInBounds_toArray, List.set_cons_zero, List.set_cons_succ])
  refine wlV (c := b5) (v := .bool h111) (by cases b5 <;> kernel_rfl) (by intro hc9; subst hc9; kernel_rfl) ?_
  (try simp only [Act.put, List.setIfInBounds_toArray, List.set_cons_zero, List.set_cons_succ])
  obtain ⟨d6, hd6⟩ : ∃ c, (b5 && !h111) = c := ⟨_, rfl⟩
  refine wlV (c := d6) (v := bv f) (by subst hd6; cases b5 <;> cases h111 <;> kernel_rfl) (by intro hc9; subst hc9; kernel_rfl) ?_
  (try simp only [Act.put, List.setIfInBounds_toArray, List.set_cons_zero, List.set_cons_succ])
  refine wlC (c := d6) (v := .bool h109) (by subst hd6; cases b5 <;> cases h111 <;> kernel_rfl) (by intro hc9; subst hc9; kernel_rfl) (H109.out _) ?_
  (try simp only [Act.put, List.setIfInBounds_toArray, List.set_cons_zero, List.set_cons_succ])
  refine wlV (c := b5) (v := .bool (h111 || h109)) (by cases b5 <;> kernel_rfl) (by intro hc9; subst hc9; subst hd6; cases h111 <;> kernel_rfl) ?_
  (try simp only [Act.put, List.setIfInBounds_toArray, List.set_cons_zero, List.set_cons_succ])
  obtain ⟨ho, hho⟩ : ∃ b, (h111 || h109) = b := ⟨_, rfl⟩
  rw [hho]
  refine wlV (c := b5) (v := .bool ho) (by cases b5 <;> kernel_rfl) (by intro hc9; subst hc9; kernel_rfl) ?_
  (try simp only [Act.put, List.setIfInBounds_toArray, List.set_cons_zero, List.set_cons_succ])
  obtain ⟨c6, hc6⟩ : ∃ c, (b5 && !ho) = c := ⟨_, rfl⟩
  refine wlV (c := c6) (v := .pointer (some ⟨w.heap.size, 6, none⟩)) (by subst hc6; cases b5 <;> cases ho <;> kernel_rfl) (by intro hc9; subst hc9; kernel_rfl) ?_
  (try simp only [Act.put, List.setIfInBounds_toArray, List.set_cons_zero, List.set_cons_succ])
  refine wlV (c := c6) (v := .bool a6) (by subst hc6; cases b5 <;> cases ho <;> kernel_rfl) (by intro hc9; subst hc9; go_simp) ?_
  (try simp only [Act.put, List.setIfInBounds_toArray, List.set_cons_zero, List.set_cons_succ])
  refine wlV (c := c6) (v := .bool (!a6)) (by subst hc6; cases b5 <;> cases ho <;> kernel_rfl) (by intro hc9; subst hc9; kernel_rfl) ?_
  (try simp only [Act.put, List.setIfInBounds_toArray, List.set_cons_zero, List.set_cons_succ])
  refine wlV (c := b5) (v := .bool (ho || !a6)) (by cases b5 <;> kernel_rfl) (by intro hc9; subst hc9; subst hc6; cases ho <;> kernel_rfl) ?_
  (try simp only [Act.put, List.setIfInBounds_toArray, List.set_cons_zero, List.set_cons_succ])
  refine wlV1 (v := .bool (b5 && (ho || !a6))) (by kernel_rfl) (by cases b5 <;> kernel_rfl) ?_
  (try simp only [Act.put, List.setIfInBounds_toArray, List.set_cons_zero, List.set_cons_succ])
  obtain ⟨b6, hb6⟩ : ∃ x, (b5 && (ho || !a6)) = x := ⟨_, rfl⟩
  rw [hb6]
  refine wlV1 (v := .bool b6) (by kernel_rfl) (by kernel_rfl) ?_
  (try simp only [Act.put, List.setIfInBounds_toArray, List.set_cons_zero, List.set_cons_succ])
  refine wlV (c := b6) (v := bv f) (by cases b6 <;> kernel_rfl) (by intro hc9; subst hc9; kernel_rfl) ?_
  (try simp only [Act.put, List.setIfInBounds_toArray, List.set_cons_zero, List.set_cons_succ])
  refine wlC (c := b6) (v := .bool h102) (by cases b6 <;> kernel_rfl) (by intro hc9; subst hc9; kernel_rfl) (H102.out _) ?_
  (try simp only [Act.put, List.setIfInBounds_toArray, List.set_cons_zero, List.set_cons_succ])
  refine wlV (c := b6) (v := .bool h102) (by cases b6 <;> kernel_rfl) (by intro hc9; subst hc9; kernel_rfl) ?_
  (try simp only [Act.put, List.setIfInBounds_toArray, List.set_cons_zero, List.set_cons_succ])
  obtain ⟨c7, hc7⟩ : ∃ c, (b6 && !h102) = c := ⟨_, rfl⟩
  refine wlV (c := c7) (v := .pointer (some ⟨w.heap.size, 8, none⟩)) (by subst hc7; cases b6 <;> cases h102 <;> kernel_rfl) (by intro hc9; subst hc9; kernel_rfl) ?_
  (try simp only [Act.put, List.setIfInBounds_toArray, List.set_cons_zero, List.set_cons_succ])
  refine wlV (c := c7) (v := .int .i64 a8) (by subst hc7; cases b6 <;> cases h102 <;> kernel_rfl) (by intro hc9; subst hc9; go_simp) ?_
  (try simp only [Act.put, List.setIfInBounds_toArray, List.set_cons_zero, List.set_cons_succ])
  refine wlV (c := c7) (v := .bool (a8 == 0)) (by subst hc7; cases b6 <;> cases h102 <;> kernel_rfl) (by intro hc9; subst hc9; kernel_rfl) ?_
  (try simp only [Act.put, List.setIfInBounds_toArray, List.set_cons_zero, List.set_cons_succ])
  refine wlV (c := b6) (v := .bool (h102 || (a8 == 0))) (by cases b6 <;> kernel_rfl) (by intro hc9; subst hc9; subst hc7; cases h102 <;> kernel_rfl) ?_
  (try simp only [Act.put, List.setIfInBounds_toArray, List.set_cons_zero, List.set_cons_succ])
  refine wlV1 (v := .bool (b6 && (h102 || (a8 == 0)))) (by kernel_rfl) (by cases b6 <;> kernel_rfl) ?_
  (try simp only [Act.put, List.setIfInBounds_toArray, List.set_cons_zero, List.set_cons_succ])
  obtain ⟨b7, hb7⟩ : ∃ x, (b6 && (h102 || (a8 == 0))) = x := ⟨_, rfl⟩
  rw [hb7]
  refine wlV1 (v := .bool b7) (by kernel_rfl) (by kernel_rfl) ?_
  (try simp only [Act.put, List.setIfInBounds_toArray, List.set_cons_zero, List.set_cons_succ])
  refine wlV (c := b7) (v := bv f) (by cases b7 <;> kernel_rfl) (by intro hc9; subst hc9; kernel_rfl) ?_
  (try simp only [Act.put, List.setIfInBounds_toArray, List.set_cons_zero, List.set_cons_succ])
  refine wlC (c := b7) (v := .bool h97) (by cases b7 <;> kernel_rfl) (by intro hc9; subst hc9; kernel_rfl) (H97.out _) ?_
  (try simp only [Act.put, List.setIfInBounds_toArray, List.set_cons_zero, List.set_cons_succ])
  refine wlV (c := b7) (v := .bool h97) (by cases b7 <;> kernel_rfl) (by intro hc9; subst hc9; kernel_rfl) ?_
  (try simp only [Act.put, List.setIfInBounds_toArray, List.set_cons_zero, List.set_cons_succ])
  obtain ⟨c8, hc8⟩ : ∃ c, (b7 && !h97) = c := ⟨_, rfl⟩
  refine wlV (c := c8) (v := .pointer (some ⟨w.heap.size, 7, none⟩)) (by subst hc8; cases b7 <;> cases h97 <;> kernel_rfl) (by intro hc9; subst hc9; kernel_rfl) ?_
  (try simp only [Act.put, List.setIfInBounds_toArray, List.set_cons_zero, List.set_cons_succ])
  refine wlV (c := c8) (v := .int .i64 a7) (by subst hc8; cases b7 <;> cases h97 <;> kernel_rfl) (by intro hc9; subst hc9; go_simp) ?_
  (try simp only [Act.put, List.setIfInBounds_toArray, List.set_cons_zero, List.set_cons_succ])
  refine wlV (c := c8) (v := .bool (a7 == 0)) (by subst hc8; cases b7 <;> cases h97 <;> kernel_rfl) (by intro hc9; subst hc9; kernel_rfl) ?_
  (try simp only [Act.put, List.setIfInBounds_toArray, List.set_cons_zero, List.set_cons_succ])
  refine wlV (c := b7) (v := .bool (h97 || (a7 == 0))) (by cases b7 <;> kernel_rfl) (by intro hc9; subst hc9; subst hc8; cases h97 <;> kernel_rfl) ?_
  (try simp only [Act.put, List.setIfInBounds_toArray, List.set_cons_zero, List.set_cons_succ])
  refine wlV1 (v := .bool (b7 && (h97 || (a7 == 0)))) (by kernel_rfl) (by cases b7 <;> kernel_rfl) ?_
  (try simp only [Act.put, List.setIfInBounds_toArray, List.set_cons_zero, List.set_cons_succ])
  obtain ⟨b8, hb8⟩ : ∃ x, (b7 && (h97 || (a7 == 0))) = x := ⟨_, rfl⟩
  rw [hb8]
  refine wlV1 (v := .bool b8) (by kernel_rfl) (by kernel_rfl) ?_
  (try simp only [Act.put, List.setIfInBounds_toArray, List.set_cons_zero, List.set_cons_succ])
  refine wlV (c := b8) (v := bv f) (by cases b8 <;> kernel_rfl) (by intro hc9; subst hc9; kernel_rfl) ?_
  (try simp only [Act.put, List.setIfInBounds_toArray, List.set_cons_zero, List.set_cons_succ])
  refine wlC (c := b8) (v := .bool h112) (by cases b8 <;> kernel_rfl) (by intro hc9; subst hc9; kernel_rfl) (H112.out _) ?_
  (try simp only [Act.put, List.setIfInBounds_toArray, List.set_cons_zero, List.set_cons_succ])
  refine wlV (c := b8) (v := .bool h112) (by cases b8 <;> kernel_rfl) (by intro hc9; subst hc9; kernel_rfl) ?_
  (try simp only [Act.put, List.setIfInBounds_toArray, List.set_cons_zero, List.set_cons_succ])
  obtain ⟨c9, hc9⟩ : ∃ c, (b8 && !h112) = c := ⟨_, rfl⟩
  refine wlV (c := c9) (v := .pointer (some ⟨w.heap.size, 5, none⟩)) (by subst hc9; cases b8 <;> cases h112 <;> kernel_rfl) (by intro hc9; subst hc9; kernel_rfl) ?_
  (try simp only [Act.put, List.setIfInBounds_toArray, List.set_cons_zero, List.set_cons_succ])
  refine wlV (c := c9) (v := .int .i64 a5) (by subst hc9; cases b8 <;> cases h112 <;> kernel_rfl) (by intro hc9; subst hc9; go_simp) ?_
  (try simp only [Act.put, List.setIfInBounds_toArray, List.set_cons_zero, List.set_cons_succ])
  refine wlV (c := c9) (v := .bool (a5 == 0)) (by subst hc9; cases b8 <;> cases h112 <;> kernel_rfl) (by intro hc9; subst hc9; kernel_rfl) ?_
  (try simp only [Act.put, List.setIfInBounds_toArray, List.set_cons_zero, List.set_cons_succ])
  refine wlV (c := b8) (v := .bool (h112 || (a5 == 0))) (by cases b8 <;> kernel_rfl) (by intro hc9; subst hc9; subst hc9; cases h112 <;> kernel_rfl) ?_
  (try simp only [Act.put, List.setIfInBounds_toArray, List.set_cons_zero, List.set_cons_succ])
  refine wlV1 (v := .bool (b8 && (h112 || (a5 == 0)))) (by kernel_rfl) (by cases b8 <;> kernel_rfl) ?_
  (try simp only [Act.put, List.setIfInBounds_toArray, List.set_cons_zero, List.set_cons_succ])
  obtain ⟨b9, hb9⟩ : ∃ x, (b8 && (h112 || (a5 == 0))) = x := ⟨_, rfl⟩
  rw [hb9]
  refine wlV1 (v := .bool b9) (by kernel_rfl) (by kernel_rfl) ?_
  (try simp only [Act.put, List.setIfInBounds_toArray, List.set_cons_zero, List.set_cons_succ])
  refine wlV (c := b9) (v := bv f) (by cases b9 <;> kernel_rfl) (by intro hc9; subst hc9; kernel_rfl) ?_
  (try simp only [Act.put, List.setIfInBounds_toArray, List.set_cons_zero, List.set_cons_succ])
  refine wlC (c := b9) (v := .bool h101) (by cases b9 <;> kernel_rfl) (by intro hc9; subst hc9; kernel_rfl) (H101.out _) ?_
  (try simp only [Act.put, List.setIfInBounds_toArray, List.set_cons_zero, List.set_cons_succ])
  refine wlV (c := b9) (v := .bool h101) (by cases b9 <;> kernel_rfl) (by intro hc9; subst hc9; kernel_rfl) ?_
  (try simp only [Act.put, List.setIfInBounds_toArray, List.set_cons_zero, List.set_cons_succ])
  obtain ⟨c10, hc10⟩ : ∃ c, (b9 && !h101) = c := ⟨_, rfl⟩
  refine wlV (c := c10) (v := .pointer (some ⟨w.heap.size, 9, none⟩)) (by subst hc10; cases b9 <;> cases h101 <;> kernel_rfl) (by intro hc9; subst hc9; kernel_rfl) ?_
  (try simp only [Act.put, List.setIfInBounds_toArray, List.set_cons_zero, List.set_cons_succ])
  refine wlV (c := c10) (v := .int .i64 a9) (by subst hc10; cases b9 <;> cases h101 <;> kernel_rfl) (by intro hc9; subst hc9; go_simp) ?_
  (try simp only [Act.put, List.setIfInBounds_toArray, List.set_cons_zero, List.set_cons_succ])
  refine wlV (c := c10) (v := .bool (a9 == 0)) (by subst hc10; cases b9 <;> cases h101 <;> kernel_rfl) (by intro hc9; subst hc9; kernel_rfl) ?_
  (try simp only [Act.put, List.setIfInBounds_toArray, List.set_cons_zero, List.set_cons_succ])
  refine wlV (c := b9) (v := .bool (h101 || (a9 == 0))) (by cases b9 <;> kernel_rfl) (by intro hc9; subst hc9; subst hc10; cases h101 <;> kernel_rfl) ?_
  (try simp only [Act.put, List.setIfInBounds_toArray, List.set_cons_zero, List.set_cons_succ])
  refine wlV1 (v := .bool (b9 && (h101 || (a9 == 0)))) (by kernel_rfl) (by cases b9 <;> kernel_rfl) ?_
  (try simp only [Act.put, List.setIfInBounds_toArray, List.set_cons_zero, List.set_cons_succ])
  obtain ⟨b10, hb10⟩ : ∃ x, (b9 && (h101 || (a9 == 0))) = x := ⟨_, rfl⟩
  rw [hb10]
  refine wlV1 (v := .bool b10) (by kernel_rfl) (by kernel_rfl) ?_
  (try simp only [Act.put, List.setIfInBounds_toArray, List.set_cons_zero, List.set_cons_succ])
  refine wlV (c := b10) (v := bv f) (by cases b10 <;> kernel_rfl) (by intro hc9; subst hc9; kernel_rfl) ?_
  (try simp only [Act.put, List.setIfInBounds_toArray, List.set_cons_zero, List.set_cons_succ])
  refine wlC (c := b10) (v := .bool h98) (by cases b10 <;> kernel_rfl) (by intro hc9; subst hc9; kernel_rfl) (H98.out _) ?_
  (try simp only [Act.put, List.setIfInBounds_toArray, List.set_cons_zero, List.set_cons_succ])
  refine wlV (c := b10) (v := .bool h98) (by cases b10 <;> kernel_rfl) (by intro hc9; subst hc9; kernel_rfl) ?_
  (try simp only [Act.put, List.setIfInBounds_toArray, List.set_cons_zero, List.set_cons_succ])
  obtain ⟨c11, hc11⟩ : ∃ c, (b10 && !h98) = c := ⟨_, rfl⟩
  refine wlV (c := c11) (v := .pointer (some ⟨w.heap.size, 11, none⟩)) (by subst hc11; cases b10 <;> cases h98 <;> kernel_rfl) (by intro hc9; subst hc9; kernel_rfl) ?_
  (try simp only [Act.put, List.setIfInBounds_toArray, List.set_cons_zero, List.set_cons_succ])
  refine wlV (c := c11) (v := .slice A n cc) (by subst hc11; cases b10 <;> cases h98 <;> kernel_rfl) (by intro hc9; subst hc9; go_simp) ?_
  (try simp only [Act.put, List.setIfInBounds_toArray, List.set_cons_zero, List.set_cons_succ])
  refine wlV (c := c11) (v := .int .i64 n) (by subst hc11; cases b10 <;> cases h98 <;> kernel_rfl) (by intro hc9; subst hc9; kernel_rfl) ?_
  (try simp only [Act.put, List.setIfInBounds_toArray, List.set_cons_zero, List.set_cons_succ])
  refine wlV (c := c11) (v := .bool ((n : Int) == 0)) (by subst hc11; cases b10 <;> cases h98 <;> kernel_rfl) (by intro hc9; subst hc9; kernel_rfl) ?_
  (try simp only [Act.put, List.setIfInBounds_toArray, List.set_cons_zero, List.set_cons_succ])
  refine wlV (c := b10) (v := .bool (h98 || ((n : Int) == 0))) (by cases b10 <;> kernel_rfl) (by intro hc9; subst hc9; subst hc11; cases h98 <;> kernel_rfl) ?_
  (try simp only [Act.put, List.setIfInBounds_toArray, List.set_cons_zero, List.set_cons_succ])
  refine wlV1 (v := .bool (b10 && (h98 || ((n : Int) == 0)))) (by kernel_rfl) (by cases b10 <;> kernel_rfl) ?_
  (try simp only [Act.put, List.setIfInBounds_toArray, List.set_cons_zero, List.set_cons_succ])
  obtain ⟨b11, hb11⟩ : ∃ x, (b10 && (h98 || ((n : Int) == 0))) = x := ⟨_, rfl⟩
  rw [hb11]
  refine wlV1 (v := .bool b11) (by kernel_rfl) (by kernel_rfl) ?_
  (try simp only [Act.put, List.setIfInBounds_toArray, List.set_cons_zero, List.set_cons_succ])
  refine wpList_nil ?_
  refine hK _ _ ?_
  go_wp2
  go_ret
  refine ⟨?_, hbw⟩
  rw [HN.out] at hb11
  rw [← hb11, ← hb10, ← hb9, ← hb8, ← hb7, ← hb6, ← hb5, ← hb4, ← hb3, ← hb2, ← hb1, ← hho]
  rfl
end Go.Proofs.YtjofegjiakjjhaaDoor
