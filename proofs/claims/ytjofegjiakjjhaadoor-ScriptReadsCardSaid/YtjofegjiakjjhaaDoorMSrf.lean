import Derived.Test.YtjofegjiakjjhaaDoorMSrc
import Derived.Laws.Rows
import Derived.Great.BuildSlice
import Derived.Laws.CopyOwn
import Derived.Test.YtjofegjiakjjhaaDoorMQui
/- Script, the document's own: set. -/
namespace Go.Proofs.YtjofegjiakjjhaaDoor
open Go.RowKit Go.Lib Mf

/-- A list of bools of one's own. -/
abbrev BRow (w : World) (B : Nat) (F : Value) (l : List Bool) : Prop := w.ownsRow B 4 1 F l.length (l.map Value.bool)
def SetIs (c : Fd) (F : Value) (d : St) (B : Nat) (w : World) (e : Ending) (w' : World) : Prop := ∃ F', (c ≠ .f → F' = F) ∧ e = .returned (.agg (stC d F')) ∧ BRow w' B F' d.fails ∧ Below B w w'
theorem BRow.form {w : World} {B : Nat} {F : Value} {l : List Bool} (h : BRow w B F l) : ∃ A cc, F = .slice A l.length cc := by
  rcases own_cases h with ⟨rfl, h0⟩ | ⟨g, cc, rfl, _⟩
  · exact ⟨none, 0, by rw [h0]⟩
  · exact ⟨_, _, rfl⟩
set_option maxRecDepth 20000 in
set_option maxHeartbeats 4000000 in
theorem rset_g (d : St) (F : Value) (x : Bs) (hx : x.length ≤ 100000) (B : Nat) {w : World} (hB : B ≤ w.heap.size) (ho : BRow w B F d.fails) :
    Calls Tryd.prog 34 #[.agg (stC d F), .int .u8 103, bv x] w (SetIs .g F (setR d .g x) B w) := by
  obtain ⟨z, hz⟩ : ∃ z, numR x = z := ⟨_, rfl⟩
  have hc := fun w => rnumr x hx w
  rw [hz] at hc
  have HC := Lib.hid hc
  unfold SetIs setR
  dsimp only
  rw [hz]
  clear hz hc hx
  obtain ⟨A, cc, rfl⟩ := ho.form
  have HBX := Lib.hid (fun (cs ds : Array Value) => ((Below.refl w.heap.size w).alloc (Nat.le_refl _) (.cells cs 25)).alloc (show w.heap.size ≤ _ from by simp) (.cells ds 25))
  have HO := Lib.hid ho
  clear ho
  unfold stC
  generalize d.kind = a0, d.guest = a1, d.addr = a2, d.size = a3, d.value = a4, d.page = a5, d.on = a6, d.asid = a7, d.what = a8, d.set = a9, d.way = a10, d.fails = l at *
  go_enter Tryd.func34, Tryd.ntmps34
  go_wp2_with fail
  refine (HC.out _).mono ?_; rintro e _ ⟨rfl, rfl⟩
  go_wp2
  refine bodyPost_ret (results_cell_row rfl _ _ (w.heap.size + 1) 25 _ (0, 0) _ rfl (heap_alloc2_new w _ _) Tryd.underlying25 rfl (by kernel_rfl)) rfl ?_
  exact ⟨_, fun _ => rfl, rfl, own_below HO.out (HBX.out _ _), (HBX.out _ _).mono hB⟩
set_option maxRecDepth 20000 in
set_option maxHeartbeats 4000000 in
theorem rset_p (d : St) (F : Value) (x : Bs) (hx : x.length ≤ 100000) (B : Nat) {w : World} (hB : B ≤ w.heap.size) (ho : BRow w B F d.fails) :
    Calls Tryd.prog 34 #[.agg (stC d F), .int .u8 112, bv x] w (SetIs .p F (setR d .p x) B w) := by
  obtain ⟨z, hz⟩ : ∃ z, numR x = z := ⟨_, rfl⟩
  have hc := fun w => rnumr x hx w
  rw [hz] at hc
  have HC := Lib.hid hc
  unfold SetIs setR
  dsimp only
  rw [hz]
  clear hz hc hx
  obtain ⟨A, cc, rfl⟩ := ho.form
  have HBX := Lib.hid (fun (cs ds : Array Value) => ((Below.refl w.heap.size w).alloc (Nat.le_refl _) (.cells cs 25)).alloc (show w.heap.size ≤ _ from by simp) (.cells ds 25))
  have HO := Lib.hid ho
  clear ho
  unfold stC
  generalize d.kind = a0, d.guest = a1, d.addr = a2, d.size = a3, d.value = a4, d.page = a5, d.on = a6, d.asid = a7, d.what = a8, d.set = a9, d.way = a10, d.fails = l at *
  go_enter Tryd.func34, Tryd.ntmps34
  go_wp2_with fail
  refine (HC.out _).mono ?_; rintro e _ ⟨rfl, rfl⟩
  go_wp2
  refine bodyPost_ret (results_cell_row rfl _ _ (w.heap.size + 1) 25 _ (0, 0) _ rfl (heap_alloc2_new w _ _) Tryd.underlying25 rfl (by kernel_rfl)) rfl ?_
  exact ⟨_, fun _ => rfl, rfl, own_below HO.out (HBX.out _ _), (HBX.out _ _).mono hB⟩
set_option maxRecDepth 20000 in
set_option maxHeartbeats 4000000 in
theorem rset_s (d : St) (F : Value) (x : Bs) (hx : x.length ≤ 100000) (B : Nat) {w : World} (hB : B ≤ w.heap.size) (ho : BRow w B F d.fails) :
    Calls Tryd.prog 34 #[.agg (stC d F), .int .u8 115, bv x] w (SetIs .s F (setR d .s x) B w) := by
  obtain ⟨z, hz⟩ : ∃ z, numR x = z := ⟨_, rfl⟩
  have hc := fun w => rnumr x hx w
  rw [hz] at hc
  have HC := Lib.hid hc
  unfold SetIs setR
  dsimp only
  rw [hz]
  clear hz hc hx
  obtain ⟨A, cc, rfl⟩ := ho.form
  have HBX := Lib.hid (fun (cs ds : Array Value) => ((Below.refl w.heap.size w).alloc (Nat.le_refl _) (.cells cs 25)).alloc (show w.heap.size ≤ _ from by simp) (.cells ds 25))
  have HO := Lib.hid ho
  clear ho
  unfold stC
  generalize d.kind = a0, d.guest = a1, d.addr = a2, d.size = a3, d.value = a4, d.page = a5, d.on = a6, d.asid = a7, d.what = a8, d.set = a9, d.way = a10, d.fails = l at *
  go_enter Tryd.func34, Tryd.ntmps34
  go_wp2_with fail
  refine (HC.out _).mono ?_; rintro e _ ⟨rfl, rfl⟩
  go_wp2
  refine bodyPost_ret (results_cell_row rfl _ _ (w.heap.size + 1) 25 _ (0, 0) _ rfl (heap_alloc2_new w _ _) Tryd.underlying25 rfl (by kernel_rfl)) rfl ?_
  exact ⟨_, fun _ => rfl, rfl, own_below HO.out (HBX.out _ _), (HBX.out _ _).mono hB⟩
set_option maxRecDepth 20000 in
set_option maxHeartbeats 4000000 in
theorem rset_a (d : St) (F : Value) (x : Bs) (hx : x.length ≤ 100000) (B : Nat) {w : World} (hB : B ≤ w.heap.size) (ho : BRow w B F d.fails) :
    Calls Tryd.prog 34 #[.agg (stC d F), .int .u8 97, bv x] w (SetIs .a F (setR d .a x) B w) := by
  obtain ⟨z, hz⟩ : ∃ z, numR x = z := ⟨_, rfl⟩
  have hc := fun w => rnumr x hx w
  rw [hz] at hc
  have HC := Lib.hid hc
  unfold SetIs setR
  dsimp only
  rw [hz]
  clear hz hc hx
  obtain ⟨A, cc, rfl⟩ := ho.form
  have HBX := Lib.hid (fun (cs ds : Array Value) => ((Below.refl w.heap.size w).alloc (Nat.le_refl _) (.cells cs 25)).alloc (show w.heap.size ≤ _ from by simp) (.cells ds 25))
  have HO := Lib.hid ho
  clear ho
  unfold stC
  generalize d.kind = a0, d.guest = a1, d.addr = a2, d.size = a3, d.value = a4, d.page = a5, d.on = a6, d.asid = a7, d.what = a8, d.set = a9, d.way = a10, d.fails = l at *
  go_enter Tryd.func34, Tryd.ntmps34
  go_wp2_with fail
  refine (HC.out _).mono ?_; rintro e _ ⟨rfl, rfl⟩
  go_wp2
  refine bodyPost_ret (results_cell_row rfl _ _ (w.heap.size + 1) 25 _ (0, 0) _ rfl (heap_alloc2_new w _ _) Tryd.underlying25 rfl (by kernel_rfl)) rfl ?_
  exact ⟨_, fun _ => rfl, rfl, own_below HO.out (HBX.out _ _), (HBX.out _ _).mono hB⟩
set_option maxRecDepth 20000 in
set_option maxHeartbeats 4000000 in
theorem rset_w (d : St) (F : Value) (x : Bs) (hx : x.length ≤ 100000) (B : Nat) {w : World} (hB : B ≤ w.heap.size) (ho : BRow w B F d.fails) :
    Calls Tryd.prog 34 #[.agg (stC d F), .int .u8 119, bv x] w (SetIs .w F (setR d .w x) B w) := by
  obtain ⟨z, hz⟩ : ∃ z, numR x = z := ⟨_, rfl⟩
  have hc := fun w => rnumr x hx w
  rw [hz] at hc
  have HC := Lib.hid hc
  unfold SetIs setR
  dsimp only
  rw [hz]
  clear hz hc hx
  obtain ⟨A, cc, rfl⟩ := ho.form
  have HBX := Lib.hid (fun (cs ds : Array Value) => ((Below.refl w.heap.size w).alloc (Nat.le_refl _) (.cells cs 25)).alloc (show w.heap.size ≤ _ from by simp) (.cells ds 25))
  have HO := Lib.hid ho
  clear ho
  unfold stC
  generalize d.kind = a0, d.guest = a1, d.addr = a2, d.size = a3, d.value = a4, d.page = a5, d.on = a6, d.asid = a7, d.what = a8, d.set = a9, d.way = a10, d.fails = l at *
  go_enter Tryd.func34, Tryd.ntmps34
  go_wp2_with fail
  refine (HC.out _).mono ?_; rintro e _ ⟨rfl, rfl⟩
  go_wp2
  refine bodyPost_ret (results_cell_row rfl _ _ (w.heap.size + 1) 25 _ (0, 0) _ rfl (heap_alloc2_new w _ _) Tryd.underlying25 rfl (by kernel_rfl)) rfl ?_
  exact ⟨_, fun _ => rfl, rfl, own_below HO.out (HBX.out _ _), (HBX.out _ _).mono hB⟩
set_option maxRecDepth 20000 in
set_option maxHeartbeats 4000000 in
theorem rset_t (d : St) (F : Value) (x : Bs) (hx : x.length ≤ 100000) (B : Nat) {w : World} (hB : B ≤ w.heap.size) (ho : BRow w B F d.fails) :
    Calls Tryd.prog 34 #[.agg (stC d F), .int .u8 101, bv x] w (SetIs .t F (setR d .t x) B w) := by
  obtain ⟨z, hz⟩ : ∃ z, numR x = z := ⟨_, rfl⟩
  have hc := fun w => rnumr x hx w
  rw [hz] at hc
  have HC := Lib.hid hc
  unfold SetIs setR
  dsimp only
  rw [hz]
  clear hz hc hx
  obtain ⟨A, cc, rfl⟩ := ho.form
  have HBX := Lib.hid (fun (cs ds : Array Value) => ((Below.refl w.heap.size w).alloc (Nat.le_refl _) (.cells cs 25)).alloc (show w.heap.size ≤ _ from by simp) (.cells ds 25))
  have HO := Lib.hid ho
  clear ho
  unfold stC
  generalize d.kind = a0, d.guest = a1, d.addr = a2, d.size = a3, d.value = a4, d.page = a5, d.on = a6, d.asid = a7, d.what = a8, d.set = a9, d.way = a10, d.fails = l at *
  go_enter Tryd.func34, Tryd.ntmps34
  go_wp2_with fail
  refine (HC.out _).mono ?_; rintro e _ ⟨rfl, rfl⟩
  go_wp2
  refine bodyPost_ret (results_cell_row rfl _ _ (w.heap.size + 1) 25 _ (0, 0) _ rfl (heap_alloc2_new w _ _) Tryd.underlying25 rfl (by kernel_rfl)) rfl ?_
  exact ⟨_, fun _ => rfl, rfl, own_below HO.out (HBX.out _ _), (HBX.out _ _).mono hB⟩
set_option maxRecDepth 20000 in
set_option maxHeartbeats 4000000 in
theorem rset_x (d : St) (F : Value) (x : Bs) (hx : x.length ≤ 100000) (B : Nat) {w : World} (hB : B ≤ w.heap.size) (ho : BRow w B F d.fails) :
    Calls Tryd.prog 34 #[.agg (stC d F), .int .u8 120, bv x] w (SetIs .x F (setR d .x x) B w) := by
  obtain ⟨z, hz⟩ : ∃ z, numR x = z := ⟨_, rfl⟩
  obtain ⟨y, hy⟩ : ∃ y : Nat, hexR x = y := ⟨_, rfl⟩
  have hc := fun w => rnumr x hx w
  rw [hz] at hc
  have HC := Lib.hid hc
  have hc2 := fun w => rhexr x hx w
  rw [hy] at hc2
  have HC2 := Lib.hid hc2
  unfold SetIs setR
  dsimp only
  rw [hy]
  clear hz hc hx hy hc2
  obtain ⟨A, cc, rfl⟩ := ho.form
  have HBX := Lib.hid (fun (cs ds : Array Value) => ((Below.refl w.heap.size w).alloc (Nat.le_refl _) (.cells cs 25)).alloc (show w.heap.size ≤ _ from by simp) (.cells ds 25))
  have HO := Lib.hid ho
  clear ho
  unfold stC
  generalize d.kind = a0, d.guest = a1, d.addr = a2, d.size = a3, d.value = a4, d.page = a5, d.on = a6, d.asid = a7, d.what = a8, d.set = a9, d.way = a10, d.fails = l at *
  go_enter Tryd.func34, Tryd.ntmps34
  go_upto_region 1 with fail
  have hsz1 : ∀ cs : Array Value, (w.alloc (.cells cs 25)).heap.size = w.heap.size + 1 := fun cs => by simp
  have HS := Lib.hid (fun cs zs => (show Blk ((w.alloc (.cells cs 25)).alloc (.cells zs 25)) w.heap.size 25 cs from (Blk.new w _ _).alloc _))
  have HR := Lib.hid (fun cs zs => (show Blk ((w.alloc (.cells cs 25)).alloc (.cells zs 25)) (w.heap.size + 1) 25 zs from by rw [← hsz1 cs]; exact Blk.new _ _ _))
  have HBE := Lib.hid (HBX.out #[.int .i64 a0, .int .i64 a1, .int .u64 a2, .int .i64 a3, .int .u64 a4, .int .i64 a5, .bool a6, .int .i64 a7, .int .i64 a8, .int .i64 a9, .int .i64 a10, .slice A l.length cc] #[.int .i64 0, .int .i64 0, .int .u64 0, .int .i64 0, .int .u64 0, .int .i64 0, .bool false, .int .i64 0, .int .i64 0, .int .i64 0, .int .i64 0, .slice none 0 0])
  replace HS := Lib.hid (HS.out #[.int .i64 a0, .int .i64 a1, .int .u64 a2, .int .i64 a3, .int .u64 a4, .int .i64 a5, .bool a6, .int .i64 a7, .int .i64 a8, .int .i64 a9, .int .i64 a10, .slice A l.length cc] #[.int .i64 0, .int .i64 0, .int .u64 0, .int .i64 0, .int .u64 0, .int .i64 0, .bool false, .int .i64 0, .int .i64 0, .int .i64 0, .int .i64 0, .slice none 0 0])
  replace HR := Lib.hid (HR.out #[.int .i64 a0, .int .i64 a1, .int .u64 a2, .int .i64 a3, .int .u64 a4, .int .i64 a5, .bool a6, .int .i64 a7, .int .i64 a8, .int .i64 a9, .int .i64 a10, .slice A l.length cc] #[.int .i64 0, .int .i64 0, .int .u64 0, .int .i64 0, .int .u64 0, .int .i64 0, .bool false, .int .i64 0, .int .i64 0, .int .i64 0, .int .i64 0, .slice none 0 0])
  clear hsz1 HBX
  obtain ⟨rb, hrb⟩ : ∃ n, w.heap.size + 1 = n := ⟨_, rfl⟩
  have HRB := Lib.hid (show w.heap.size < rb from by omega)
  rw [hrb] at HR ⊢
  clear hrb
  generalize (w.alloc (.cells #[.int .i64 a0, .int .i64 a1, .int .u64 a2, .int .i64 a3, .int .u64 a4, .int .i64 a5, .bool a6, .int .i64 a7, .int .i64 a8, .int .i64 a9, .int .i64 a10, .slice A l.length cc] 25)).alloc (.cells #[.int .i64 0, .int .i64 0, .int .u64 0, .int .i64 0, .int .u64 0, .int .i64 0, .bool false, .int .i64 0, .int .i64 0, .int .i64 0, .int .i64 0, .slice none 0 0] 25) = w2 at *
  go_wp2_with fail
  refine (HC.out _).mono ?_; rintro e _ ⟨rfl, rfl⟩
  have hc0 := (HS.out.cell 2).trans rfl
  have hf0 := HS.out.frozen 2
  go_wp2_with fail
  refine (HC2.out _).mono ?_; rintro e w4 ⟨rfl, q, rfl⟩
  replace HS := Lib.hid (show Blk (w2.drewN q) w.heap.size 25 _ from HS.out)
  replace HR := Lib.hid (show Blk (w2.drewN q) rb 25 _ from HR.out)
  replace HBE := Lib.hid (below_drewN HBE.out q)
  generalize w2.drewN q = w5 at *
  clear hc0 hf0
  have hc0 := (HS.out.cell 2).trans rfl
  have hf0 := HS.out.frozen 2
  go_upto_region 33 with fail
  clear hc0 hf0
  replace HS := Lib.hid (show Blk _ w.heap.size 25 #[.int .i64 a0, .int .i64 a1, .int .u64 y, .int .i64 a3, .int .u64 a4, .int .i64 a5, .bool a6, .int .i64 a7, .int .i64 a8, .int .i64 a9, .int .i64 a10, .slice A l.length cc] from HS.out.set_ 2 (.int .u64 y))
  replace HR := Lib.hid (HR.out.far (p := ⟨w.heap.size, 2, none⟩) (show rb ≠ w.heap.size from Nat.ne_of_gt HRB.out) (.int .u64 y))
  replace HBE := Lib.hid (HBE.out.setCell (p := ⟨w.heap.size, 2, none⟩) (Nat.le_refl _) (.int .u64 y))
  generalize w5.setCell ⟨w.heap.size, 2, none⟩ (.int .u64 y) = w6 at *
  rename_i hK
  apply wp_region_lit
  refine wpList_load_row rfl 25 _ rfl w.heap.size rfl 25 _ (0, 0) _ HS.out Tryd.underlying25 rfl (by kernel_rfl) ?_
  (try simp only [Act.put, List.setIfInBounds_toArray, List.set_cons_zero, List.set_cons_succ])
  refine wpList_store_rowTo rfl 25 _ _ rfl rfl rb _ rfl rfl 25 _ HR.out (by kernel_rfl) (by kernel_rfl) (by kernel_rfl) ?_
  refine wpList_nil ?_
  refine hK _ _ ?_
  apply wp_ret
  refine bodyPost_ret (results_cell_row rfl _ _ rb 25 _ (0, 0) _ rfl (setRow_heap _ rb _ _ 25 (0, 0) HR.out) Tryd.underlying25 rfl (by kernel_rfl)) rfl ?_
  have hbf := below_setRow HBE.out (Nat.le_of_lt HRB.out) #[.int .i64 a0, .int .i64 a1, .int .u64 y, .int .i64 a3, .int .u64 a4, .int .i64 a5, .bool a6, .int .i64 a7, .int .i64 a8, .int .i64 a9, .int .i64 a10, .slice A l.length cc]
  exact ⟨_, fun _ => rfl, rfl, own_below HO.out hbf, hbf.mono hB⟩
set_option maxRecDepth 20000 in
set_option maxHeartbeats 4000000 in
theorem rset_v (d : St) (F : Value) (x : Bs) (hx : x.length ≤ 100000) (B : Nat) {w : World} (hB : B ≤ w.heap.size) (ho : BRow w B F d.fails) :
    Calls Tryd.prog 34 #[.agg (stC d F), .int .u8 118, bv x] w (SetIs .v F (setR d .v x) B w) := by
  obtain ⟨z, hz⟩ : ∃ z, numR x = z := ⟨_, rfl⟩
  obtain ⟨y, hy⟩ : ∃ y : Nat, hexR x = y := ⟨_, rfl⟩
  have hc := fun w => rnumr x hx w
  rw [hz] at hc
  have HC := Lib.hid hc
  have hc2 := fun w => rhexr x hx w
  rw [hy] at hc2
  have HC2 := Lib.hid hc2
  unfold SetIs setR
  dsimp only
  rw [hy]
  clear hz hc hx hy hc2
  obtain ⟨A, cc, rfl⟩ := ho.form
  have HBX := Lib.hid (fun (cs ds : Array Value) => ((Below.refl w.heap.size w).alloc (Nat.le_refl _) (.cells cs 25)).alloc (show w.heap.size ≤ _ from by simp) (.cells ds 25))
  have HO := Lib.hid ho
  clear ho
  unfold stC
  generalize d.kind = a0, d.guest = a1, d.addr = a2, d.size = a3, d.value = a4, d.page = a5, d.on = a6, d.asid = a7, d.what = a8, d.set = a9, d.way = a10, d.fails = l at *
  go_enter Tryd.func34, Tryd.ntmps34
  go_upto_region 1 with fail
  have hsz1 : ∀ cs : Array Value, (w.alloc (.cells cs 25)).heap.size = w.heap.size + 1 := fun cs => by simp
  have HS := Lib.hid (fun cs zs => (show Blk ((w.alloc (.cells cs 25)).alloc (.cells zs 25)) w.heap.size 25 cs from (Blk.new w _ _).alloc _))
  have HR := Lib.hid (fun cs zs => (show Blk ((w.alloc (.cells cs 25)).alloc (.cells zs 25)) (w.heap.size + 1) 25 zs from by rw [← hsz1 cs]; exact Blk.new _ _ _))
  have HBE := Lib.hid (HBX.out #[.int .i64 a0, .int .i64 a1, .int .u64 a2, .int .i64 a3, .int .u64 a4, .int .i64 a5, .bool a6, .int .i64 a7, .int .i64 a8, .int .i64 a9, .int .i64 a10, .slice A l.length cc] #[.int .i64 0, .int .i64 0, .int .u64 0, .int .i64 0, .int .u64 0, .int .i64 0, .bool false, .int .i64 0, .int .i64 0, .int .i64 0, .int .i64 0, .slice none 0 0])
  replace HS := Lib.hid (HS.out #[.int .i64 a0, .int .i64 a1, .int .u64 a2, .int .i64 a3, .int .u64 a4, .int .i64 a5, .bool a6, .int .i64 a7, .int .i64 a8, .int .i64 a9, .int .i64 a10, .slice A l.length cc] #[.int .i64 0, .int .i64 0, .int .u64 0, .int .i64 0, .int .u64 0, .int .i64 0, .bool false, .int .i64 0, .int .i64 0, .int .i64 0, .int .i64 0, .slice none 0 0])
  replace HR := Lib.hid (HR.out #[.int .i64 a0, .int .i64 a1, .int .u64 a2, .int .i64 a3, .int .u64 a4, .int .i64 a5, .bool a6, .int .i64 a7, .int .i64 a8, .int .i64 a9, .int .i64 a10, .slice A l.length cc] #[.int .i64 0, .int .i64 0, .int .u64 0, .int .i64 0, .int .u64 0, .int .i64 0, .bool false, .int .i64 0, .int .i64 0, .int .i64 0, .int .i64 0, .slice none 0 0])
  clear hsz1 HBX
  obtain ⟨rb, hrb⟩ : ∃ n, w.heap.size + 1 = n := ⟨_, rfl⟩
  have HRB := Lib.hid (show w.heap.size < rb from by omega)
  rw [hrb] at HR ⊢
  clear hrb
  generalize (w.alloc (.cells #[.int .i64 a0, .int .i64 a1, .int .u64 a2, .int .i64 a3, .int .u64 a4, .int .i64 a5, .bool a6, .int .i64 a7, .int .i64 a8, .int .i64 a9, .int .i64 a10, .slice A l.length cc] 25)).alloc (.cells #[.int .i64 0, .int .i64 0, .int .u64 0, .int .i64 0, .int .u64 0, .int .i64 0, .bool false, .int .i64 0, .int .i64 0, .int .i64 0, .int .i64 0, .slice none 0 0] 25) = w2 at *
  go_wp2_with fail
  refine (HC.out _).mono ?_; rintro e _ ⟨rfl, rfl⟩
  have hc0 := (HS.out.cell 4).trans rfl
  have hf0 := HS.out.frozen 4
  go_wp2_with fail
  refine (HC2.out _).mono ?_; rintro e w4 ⟨rfl, q, rfl⟩
  replace HS := Lib.hid (show Blk (w2.drewN q) w.heap.size 25 _ from HS.out)
  replace HR := Lib.hid (show Blk (w2.drewN q) rb 25 _ from HR.out)
  replace HBE := Lib.hid (below_drewN HBE.out q)
  generalize w2.drewN q = w5 at *
  clear hc0 hf0
  have hc0 := (HS.out.cell 4).trans rfl
  have hf0 := HS.out.frozen 4
  go_upto_region 33 with fail
  clear hc0 hf0
  replace HS := Lib.hid (show Blk _ w.heap.size 25 #[.int .i64 a0, .int .i64 a1, .int .u64 a2, .int .i64 a3, .int .u64 y, .int .i64 a5, .bool a6, .int .i64 a7, .int .i64 a8, .int .i64 a9, .int .i64 a10, .slice A l.length cc] from HS.out.set_ 4 (.int .u64 y))
  replace HR := Lib.hid (HR.out.far (p := ⟨w.heap.size, 4, none⟩) (show rb ≠ w.heap.size from Nat.ne_of_gt HRB.out) (.int .u64 y))
  replace HBE := Lib.hid (HBE.out.setCell (p := ⟨w.heap.size, 4, none⟩) (Nat.le_refl _) (.int .u64 y))
  generalize w5.setCell ⟨w.heap.size, 4, none⟩ (.int .u64 y) = w6 at *
  rename_i hK
  apply wp_region_lit
  refine wpList_load_row rfl 25 _ rfl w.heap.size rfl 25 _ (0, 0) _ HS.out Tryd.underlying25 rfl (by kernel_rfl) ?_
  (try simp only [Act.put, List.setIfInBounds_toArray, List.set_cons_zero, List.set_cons_succ])
  refine wpList_store_rowTo rfl 25 _ _ rfl rfl rb _ rfl rfl 25 _ HR.out (by kernel_rfl) (by kernel_rfl) (by kernel_rfl) ?_
  refine wpList_nil ?_
  refine hK _ _ ?_
  apply wp_ret
  refine bodyPost_ret (results_cell_row rfl _ _ rb 25 _ (0, 0) _ rfl (setRow_heap _ rb _ _ 25 (0, 0) HR.out) Tryd.underlying25 rfl (by kernel_rfl)) rfl ?_
  have hbf := below_setRow HBE.out (Nat.le_of_lt HRB.out) #[.int .i64 a0, .int .i64 a1, .int .u64 a2, .int .i64 a3, .int .u64 y, .int .i64 a5, .bool a6, .int .i64 a7, .int .i64 a8, .int .i64 a9, .int .i64 a10, .slice A l.length cc]
  exact ⟨_, fun _ => rfl, rfl, own_below HO.out hbf, hbf.mono hB⟩
set_option maxRecDepth 20000 in
set_option maxHeartbeats 4000000 in
theorem rset_o (d : St) (F : Value) (x : Bs) (hx : x.length ≤ 100000) (B : Nat) {w : World} (hB : B ≤ w.heap.size) (ho : BRow w B F d.fails) :
    Calls Tryd.prog 34 #[.agg (stC d F), .int .u8 111, bv x] w (SetIs .o F (setR d .o x) B w) := by
  obtain ⟨z, hz⟩ : ∃ z, numR x = z := ⟨_, rfl⟩
  have hc := fun w => rnumr x hx w
  rw [hz] at hc
  have HC := Lib.hid hc
  unfold SetIs setR
  dsimp only
  clear hz hc hx
  obtain ⟨b1, hb1⟩ : ∃ b, (x == [111, 110]) = b := ⟨_, rfl⟩
  obtain ⟨b2, hb2⟩ : ∃ b, (x == [114, 119]) = b := ⟨_, rfl⟩
  rw [hb1, hb2]
  obtain ⟨A, cc, rfl⟩ := ho.form
  have HBX := Lib.hid (fun (cs ds : Array Value) => ((Below.refl w.heap.size w).alloc (Nat.le_refl _) (.cells cs 25)).alloc (show w.heap.size ≤ _ from by simp) (.cells ds 25))
  have HO := Lib.hid ho
  clear ho
  unfold stC
  generalize d.kind = a0, d.guest = a1, d.addr = a2, d.size = a3, d.value = a4, d.page = a5, d.on = a6, d.asid = a7, d.what = a8, d.set = a9, d.way = a10, d.fails = l at *
  go_enter Tryd.func34, Tryd.ntmps34
  go_upto_region 1 with fail
  have hsz1 : ∀ cs : Array Value, (w.alloc (.cells cs 25)).heap.size = w.heap.size + 1 := fun cs => by simp
  have HS := Lib.hid (fun cs zs => (show Blk ((w.alloc (.cells cs 25)).alloc (.cells zs 25)) w.heap.size 25 cs from (Blk.new w _ _).alloc _))
  have HR := Lib.hid (fun cs zs => (show Blk ((w.alloc (.cells cs 25)).alloc (.cells zs 25)) (w.heap.size + 1) 25 zs from by rw [← hsz1 cs]; exact Blk.new _ _ _))
  have HBE := Lib.hid (HBX.out #[.int .i64 a0, .int .i64 a1, .int .u64 a2, .int .i64 a3, .int .u64 a4, .int .i64 a5, .bool a6, .int .i64 a7, .int .i64 a8, .int .i64 a9, .int .i64 a10, .slice A l.length cc] #[.int .i64 0, .int .i64 0, .int .u64 0, .int .i64 0, .int .u64 0, .int .i64 0, .bool false, .int .i64 0, .int .i64 0, .int .i64 0, .int .i64 0, .slice none 0 0])
  replace HS := Lib.hid (HS.out #[.int .i64 a0, .int .i64 a1, .int .u64 a2, .int .i64 a3, .int .u64 a4, .int .i64 a5, .bool a6, .int .i64 a7, .int .i64 a8, .int .i64 a9, .int .i64 a10, .slice A l.length cc] #[.int .i64 0, .int .i64 0, .int .u64 0, .int .i64 0, .int .u64 0, .int .i64 0, .bool false, .int .i64 0, .int .i64 0, .int .i64 0, .int .i64 0, .slice none 0 0])
  replace HR := Lib.hid (HR.out #[.int .i64 a0, .int .i64 a1, .int .u64 a2, .int .i64 a3, .int .u64 a4, .int .i64 a5, .bool a6, .int .i64 a7, .int .i64 a8, .int .i64 a9, .int .i64 a10, .slice A l.length cc] #[.int .i64 0, .int .i64 0, .int .u64 0, .int .i64 0, .int .u64 0, .int .i64 0, .bool false, .int .i64 0, .int .i64 0, .int .i64 0, .int .i64 0, .slice none 0 0])
  clear hsz1 HBX
  obtain ⟨rb, hrb⟩ : ∃ n, w.heap.size + 1 = n := ⟨_, rfl⟩
  have HRB := Lib.hid (show w.heap.size < rb from by omega)
  rw [hrb] at HR ⊢
  clear hrb
  generalize (w.alloc (.cells #[.int .i64 a0, .int .i64 a1, .int .u64 a2, .int .i64 a3, .int .u64 a4, .int .i64 a5, .bool a6, .int .i64 a7, .int .i64 a8, .int .i64 a9, .int .i64 a10, .slice A l.length cc] 25)).alloc (.cells #[.int .i64 0, .int .i64 0, .int .u64 0, .int .i64 0, .int .u64 0, .int .i64 0, .bool false, .int .i64 0, .int .i64 0, .int .i64 0, .int .i64 0, .slice none 0 0] 25) = w2 at *
  go_wp2_with fail
  refine (HC.out _).mono ?_; rintro e _ ⟨rfl, rfl⟩
  cases b1 with
  | true =>
    have hc0 := (HS.out.cell 6).trans rfl
    have hf0 := HS.out.frozen 6
    go_upto_region 33 with fail
    clear hc0 hf0
    replace HS := Lib.hid (show Blk _ w.heap.size 25 #[.int .i64 a0, .int .i64 a1, .int .u64 a2, .int .i64 a3, .int .u64 a4, .int .i64 a5, .bool true, .int .i64 a7, .int .i64 a8, .int .i64 a9, .int .i64 a10, .slice A l.length cc] from HS.out.set_ 6 (.bool true))
    replace HR := Lib.hid (HR.out.far (p := ⟨w.heap.size, 6, none⟩) (show rb ≠ w.heap.size from Nat.ne_of_gt HRB.out) (.bool true))
    replace HBE := Lib.hid (HBE.out.setCell (p := ⟨w.heap.size, 6, none⟩) (Nat.le_refl _) (.bool true))
    generalize w2.setCell ⟨w.heap.size, 6, none⟩ (.bool true) = w6 at *
    rename_i hK
    apply wp_region_lit
    refine wpList_load_row rfl 25 _ rfl w.heap.size rfl 25 _ (0, 0) _ HS.out Tryd.underlying25 rfl (by kernel_rfl) ?_
    (try simp only [Act.put, List.setIfInBounds_toArray, List.set_cons_zero, List.set_cons_succ])
    refine wpList_store_rowTo rfl 25 _ _ rfl rfl rb _ rfl rfl 25 _ HR.out (by kernel_rfl) (by kernel_rfl) (by kernel_rfl) ?_
    refine wpList_nil ?_
    refine hK _ _ ?_
    apply wp_ret
    refine bodyPost_ret (results_cell_row rfl _ _ rb 25 _ (0, 0) _ rfl (setRow_heap _ rb _ _ 25 (0, 0) HR.out) Tryd.underlying25 rfl (by kernel_rfl)) rfl ?_
    have hbf := below_setRow HBE.out (Nat.le_of_lt HRB.out) #[.int .i64 a0, .int .i64 a1, .int .u64 a2, .int .i64 a3, .int .u64 a4, .int .i64 a5, .bool true, .int .i64 a7, .int .i64 a8, .int .i64 a9, .int .i64 a10, .slice A l.length cc]
    exact ⟨_, fun _ => rfl, rfl, own_below HO.out hbf, hbf.mono hB⟩
  | false =>
    cases b2 with
    | true =>
      have hc0 := (HS.out.cell 6).trans rfl
      have hf0 := HS.out.frozen 6
      go_upto_region 33 with fail
      clear hc0 hf0
      replace HS := Lib.hid (show Blk _ w.heap.size 25 #[.int .i64 a0, .int .i64 a1, .int .u64 a2, .int .i64 a3, .int .u64 a4, .int .i64 a5, .bool true, .int .i64 a7, .int .i64 a8, .int .i64 a9, .int .i64 a10, .slice A l.length cc] from HS.out.set_ 6 (.bool true))
      replace HR := Lib.hid (HR.out.far (p := ⟨w.heap.size, 6, none⟩) (show rb ≠ w.heap.size from Nat.ne_of_gt HRB.out) (.bool true))
      replace HBE := Lib.hid (HBE.out.setCell (p := ⟨w.heap.size, 6, none⟩) (Nat.le_refl _) (.bool true))
      generalize w2.setCell ⟨w.heap.size, 6, none⟩ (.bool true) = w6 at *
      rename_i hK
      apply wp_region_lit
      refine wpList_load_row rfl 25 _ rfl w.heap.size rfl 25 _ (0, 0) _ HS.out Tryd.underlying25 rfl (by kernel_rfl) ?_
      (try simp only [Act.put, List.setIfInBounds_toArray, List.set_cons_zero, List.set_cons_succ])
      refine wpList_store_rowTo rfl 25 _ _ rfl rfl rb _ rfl rfl 25 _ HR.out (by kernel_rfl) (by kernel_rfl) (by kernel_rfl) ?_
      refine wpList_nil ?_
      refine hK _ _ ?_
      apply wp_ret
      refine bodyPost_ret (results_cell_row rfl _ _ rb 25 _ (0, 0) _ rfl (setRow_heap _ rb _ _ 25 (0, 0) HR.out) Tryd.underlying25 rfl (by kernel_rfl)) rfl ?_
      have hbf := below_setRow HBE.out (Nat.le_of_lt HRB.out) #[.int .i64 a0, .int .i64 a1, .int .u64 a2, .int .i64 a3, .int .u64 a4, .int .i64 a5, .bool true, .int .i64 a7, .int .i64 a8, .int .i64 a9, .int .i64 a10, .slice A l.length cc]
      exact ⟨_, fun _ => rfl, rfl, own_below HO.out hbf, hbf.mono hB⟩
    | false =>
      have hc0 := (HS.out.cell 6).trans rfl
      have hf0 := HS.out.frozen 6
      go_upto_region 33 with fail
      clear hc0 hf0
      replace HS := Lib.hid (show Blk _ w.heap.size 25 #[.int .i64 a0, .int .i64 a1, .int .u64 a2, .int .i64 a3, .int .u64 a4, .int .i64 a5, .bool false, .int .i64 a7, .int .i64 a8, .int .i64 a9, .int .i64 a10, .slice A l.length cc] from HS.out.set_ 6 (.bool false))
      replace HR := Lib.hid (HR.out.far (p := ⟨w.heap.size, 6, none⟩) (show rb ≠ w.heap.size from Nat.ne_of_gt HRB.out) (.bool false))
      replace HBE := Lib.hid (HBE.out.setCell (p := ⟨w.heap.size, 6, none⟩) (Nat.le_refl _) (.bool false))
      generalize w2.setCell ⟨w.heap.size, 6, none⟩ (.bool false) = w6 at *
      rename_i hK
      apply wp_region_lit
      refine wpList_load_row rfl 25 _ rfl w.heap.size rfl 25 _ (0, 0) _ HS.out Tryd.underlying25 rfl (by kernel_rfl) ?_
      (try simp only [Act.put, List.setIfInBounds_toArray, List.set_cons_zero, List.set_cons_succ])
      refine wpList_store_rowTo rfl 25 _ _ rfl rfl rb _ rfl rfl 25 _ HR.out (by kernel_rfl) (by kernel_rfl) (by kernel_rfl) ?_
      refine wpList_nil ?_
      refine hK _ _ ?_
      apply wp_ret
      refine bodyPost_ret (results_cell_row rfl _ _ rb 25 _ (0, 0) _ rfl (setRow_heap _ rb _ _ 25 (0, 0) HR.out) Tryd.underlying25 rfl (by kernel_rfl)) rfl ?_
      have hbf := below_setRow HBE.out (Nat.le_of_lt HRB.out) #[.int .i64 a0, .int .i64 a1, .int .u64 a2, .int .i64 a3, .int .u64 a4, .int .i64 a5, .bool false, .int .i64 a7, .int .i64 a8, .int .i64 a9, .int .i64 a10, .slice A l.length cc]
      exact ⟨_, fun _ => rfl, rfl, own_below HO.out hbf, hbf.mono hB⟩
set_option maxRecDepth 20000 in
set_option maxHeartbeats 4000000 in
theorem rset_r (d : St) (F : Value) (x : Bs) (hx : x.length ≤ 100000) (B : Nat) {w : World} (hB : B ≤ w.heap.size) (ho : BRow w B F d.fails) :
    Calls Tryd.prog 34 #[.agg (stC d F), .int .u8 109, bv x] w (SetIs .r F (setR d .r x) B w) := by
  obtain ⟨z, hz⟩ : ∃ z, numR x = z := ⟨_, rfl⟩
  have hc := fun w => rnumr x hx w
  rw [hz] at hc
  have HC := Lib.hid hc
  unfold SetIs setR
  dsimp only
  clear hz hc hx
  obtain ⟨b1, hb1⟩ : ∃ b, (x == [111, 110]) = b := ⟨_, rfl⟩
  obtain ⟨b2, hb2⟩ : ∃ b, (x == [114, 119]) = b := ⟨_, rfl⟩
  rw [hb1, hb2]
  obtain ⟨A, cc, rfl⟩ := ho.form
  have HBX := Lib.hid (fun (cs ds : Array Value) => ((Below.refl w.heap.size w).alloc (Nat.le_refl _) (.cells cs 25)).alloc (show w.heap.size ≤ _ from by simp) (.cells ds 25))
  have HO := Lib.hid ho
  clear ho
  unfold stC
  generalize d.kind = a0, d.guest = a1, d.addr = a2, d.size = a3, d.value = a4, d.page = a5, d.on = a6, d.asid = a7, d.what = a8, d.set = a9, d.way = a10, d.fails = l at *
  go_enter Tryd.func34, Tryd.ntmps34
  go_upto_region 1 with fail
  have hsz1 : ∀ cs : Array Value, (w.alloc (.cells cs 25)).heap.size = w.heap.size + 1 := fun cs => by simp
  have HS := Lib.hid (fun cs zs => (show Blk ((w.alloc (.cells cs 25)).alloc (.cells zs 25)) w.heap.size 25 cs from (Blk.new w _ _).alloc _))
  have HR := Lib.hid (fun cs zs => (show Blk ((w.alloc (.cells cs 25)).alloc (.cells zs 25)) (w.heap.size + 1) 25 zs from by rw [← hsz1 cs]; exact Blk.new _ _ _))
  have HBE := Lib.hid (HBX.out #[.int .i64 a0, .int .i64 a1, .int .u64 a2, .int .i64 a3, .int .u64 a4, .int .i64 a5, .bool a6, .int .i64 a7, .int .i64 a8, .int .i64 a9, .int .i64 a10, .slice A l.length cc] #[.int .i64 0, .int .i64 0, .int .u64 0, .int .i64 0, .int .u64 0, .int .i64 0, .bool false, .int .i64 0, .int .i64 0, .int .i64 0, .int .i64 0, .slice none 0 0])
  replace HS := Lib.hid (HS.out #[.int .i64 a0, .int .i64 a1, .int .u64 a2, .int .i64 a3, .int .u64 a4, .int .i64 a5, .bool a6, .int .i64 a7, .int .i64 a8, .int .i64 a9, .int .i64 a10, .slice A l.length cc] #[.int .i64 0, .int .i64 0, .int .u64 0, .int .i64 0, .int .u64 0, .int .i64 0, .bool false, .int .i64 0, .int .i64 0, .int .i64 0, .int .i64 0, .slice none 0 0])
  replace HR := Lib.hid (HR.out #[.int .i64 a0, .int .i64 a1, .int .u64 a2, .int .i64 a3, .int .u64 a4, .int .i64 a5, .bool a6, .int .i64 a7, .int .i64 a8, .int .i64 a9, .int .i64 a10, .slice A l.length cc] #[.int .i64 0, .int .i64 0, .int .u64 0, .int .i64 0, .int .u64 0, .int .i64 0, .bool false, .int .i64 0, .int .i64 0, .int .i64 0, .int .i64 0, .slice none 0 0])
  clear hsz1 HBX
  obtain ⟨rb, hrb⟩ : ∃ n, w.heap.size + 1 = n := ⟨_, rfl⟩
  have HRB := Lib.hid (show w.heap.size < rb from by omega)
  rw [hrb] at HR ⊢
  clear hrb
  generalize (w.alloc (.cells #[.int .i64 a0, .int .i64 a1, .int .u64 a2, .int .i64 a3, .int .u64 a4, .int .i64 a5, .bool a6, .int .i64 a7, .int .i64 a8, .int .i64 a9, .int .i64 a10, .slice A l.length cc] 25)).alloc (.cells #[.int .i64 0, .int .i64 0, .int .u64 0, .int .i64 0, .int .u64 0, .int .i64 0, .bool false, .int .i64 0, .int .i64 0, .int .i64 0, .int .i64 0, .slice none 0 0] 25) = w2 at *
  go_wp2_with fail
  refine (HC.out _).mono ?_; rintro e _ ⟨rfl, rfl⟩
  cases b1 with
  | true =>
    have hc0 := (HS.out.cell 6).trans rfl
    have hf0 := HS.out.frozen 6
    go_upto_region 33 with fail
    clear hc0 hf0
    replace HS := Lib.hid (show Blk _ w.heap.size 25 #[.int .i64 a0, .int .i64 a1, .int .u64 a2, .int .i64 a3, .int .u64 a4, .int .i64 a5, .bool true, .int .i64 a7, .int .i64 a8, .int .i64 a9, .int .i64 a10, .slice A l.length cc] from HS.out.set_ 6 (.bool true))
    replace HR := Lib.hid (HR.out.far (p := ⟨w.heap.size, 6, none⟩) (show rb ≠ w.heap.size from Nat.ne_of_gt HRB.out) (.bool true))
    replace HBE := Lib.hid (HBE.out.setCell (p := ⟨w.heap.size, 6, none⟩) (Nat.le_refl _) (.bool true))
    generalize w2.setCell ⟨w.heap.size, 6, none⟩ (.bool true) = w6 at *
    rename_i hK
    apply wp_region_lit
    refine wpList_load_row rfl 25 _ rfl w.heap.size rfl 25 _ (0, 0) _ HS.out Tryd.underlying25 rfl (by kernel_rfl) ?_
    (try simp only [Act.put, List.setIfInBounds_toArray, List.set_cons_zero, List.set_cons_succ])
    refine wpList_store_rowTo rfl 25 _ _ rfl rfl rb _ rfl rfl 25 _ HR.out (by kernel_rfl) (by kernel_rfl) (by kernel_rfl) ?_
    refine wpList_nil ?_
    refine hK _ _ ?_
    apply wp_ret
    refine bodyPost_ret (results_cell_row rfl _ _ rb 25 _ (0, 0) _ rfl (setRow_heap _ rb _ _ 25 (0, 0) HR.out) Tryd.underlying25 rfl (by kernel_rfl)) rfl ?_
    have hbf := below_setRow HBE.out (Nat.le_of_lt HRB.out) #[.int .i64 a0, .int .i64 a1, .int .u64 a2, .int .i64 a3, .int .u64 a4, .int .i64 a5, .bool true, .int .i64 a7, .int .i64 a8, .int .i64 a9, .int .i64 a10, .slice A l.length cc]
    exact ⟨_, fun _ => rfl, rfl, own_below HO.out hbf, hbf.mono hB⟩
  | false =>
    cases b2 with
    | true =>
      have hc0 := (HS.out.cell 6).trans rfl
      have hf0 := HS.out.frozen 6
      go_upto_region 33 with fail
      clear hc0 hf0
      replace HS := Lib.hid (show Blk _ w.heap.size 25 #[.int .i64 a0, .int .i64 a1, .int .u64 a2, .int .i64 a3, .int .u64 a4, .int .i64 a5, .bool true, .int .i64 a7, .int .i64 a8, .int .i64 a9, .int .i64 a10, .slice A l.length cc] from HS.out.set_ 6 (.bool true))
      replace HR := Lib.hid (HR.out.far (p := ⟨w.heap.size, 6, none⟩) (show rb ≠ w.heap.size from Nat.ne_of_gt HRB.out) (.bool true))
      replace HBE := Lib.hid (HBE.out.setCell (p := ⟨w.heap.size, 6, none⟩) (Nat.le_refl _) (.bool true))
      generalize w2.setCell ⟨w.heap.size, 6, none⟩ (.bool true) = w6 at *
      rename_i hK
      apply wp_region_lit
      refine wpList_load_row rfl 25 _ rfl w.heap.size rfl 25 _ (0, 0) _ HS.out Tryd.underlying25 rfl (by kernel_rfl) ?_
      (try simp only [Act.put, List.setIfInBounds_toArray, List.set_cons_zero, List.set_cons_succ])
      refine wpList_store_rowTo rfl 25 _ _ rfl rfl rb _ rfl rfl 25 _ HR.out (by kernel_rfl) (by kernel_rfl) (by kernel_rfl) ?_
      refine wpList_nil ?_
      refine hK _ _ ?_
      apply wp_ret
      refine bodyPost_ret (results_cell_row rfl _ _ rb 25 _ (0, 0) _ rfl (setRow_heap _ rb _ _ 25 (0, 0) HR.out) Tryd.underlying25 rfl (by kernel_rfl)) rfl ?_
      have hbf := below_setRow HBE.out (Nat.le_of_lt HRB.out) #[.int .i64 a0, .int .i64 a1, .int .u64 a2, .int .i64 a3, .int .u64 a4, .int .i64 a5, .bool true, .int .i64 a7, .int .i64 a8, .int .i64 a9, .int .i64 a10, .slice A l.length cc]
      exact ⟨_, fun _ => rfl, rfl, own_below HO.out hbf, hbf.mono hB⟩
    | false =>
      have hc0 := (HS.out.cell 6).trans rfl
      have hf0 := HS.out.frozen 6
      go_upto_region 33 with fail
      clear hc0 hf0
      replace HS := Lib.hid (show Blk _ w.heap.size 25 #[.int .i64 a0, .int .i64 a1, .int .u64 a2, .int .i64 a3, .int .u64 a4, .int .i64 a5, .bool false, .int .i64 a7, .int .i64 a8, .int .i64 a9, .int .i64 a10, .slice A l.length cc] from HS.out.set_ 6 (.bool false))
      replace HR := Lib.hid (HR.out.far (p := ⟨w.heap.size, 6, none⟩) (show rb ≠ w.heap.size from Nat.ne_of_gt HRB.out) (.bool false))
      replace HBE := Lib.hid (HBE.out.setCell (p := ⟨w.heap.size, 6, none⟩) (Nat.le_refl _) (.bool false))
      generalize w2.setCell ⟨w.heap.size, 6, none⟩ (.bool false) = w6 at *
      rename_i hK
      apply wp_region_lit
      refine wpList_load_row rfl 25 _ rfl w.heap.size rfl 25 _ (0, 0) _ HS.out Tryd.underlying25 rfl (by kernel_rfl) ?_
      (try simp only [Act.put, List.setIfInBounds_toArray, List.set_cons_zero, List.set_cons_succ])
      refine wpList_store_rowTo rfl 25 _ _ rfl rfl rb _ rfl rfl 25 _ HR.out (by kernel_rfl) (by kernel_rfl) (by kernel_rfl) ?_
      refine wpList_nil ?_
      refine hK _ _ ?_
      apply wp_ret
      refine bodyPost_ret (results_cell_row rfl _ _ rb 25 _ (0, 0) _ rfl (setRow_heap _ rb _ _ 25 (0, 0) HR.out) Tryd.underlying25 rfl (by kernel_rfl)) rfl ?_
      have hbf := below_setRow HBE.out (Nat.le_of_lt HRB.out) #[.int .i64 a0, .int .i64 a1, .int .u64 a2, .int .i64 a3, .int .u64 a4, .int .i64 a5, .bool false, .int .i64 a7, .int .i64 a8, .int .i64 a9, .int .i64 a10, .slice A l.length cc]
      exact ⟨_, fun _ => rfl, rfl, own_below HO.out hbf, hbf.mono hB⟩
end Go.Proofs.YtjofegjiakjjhaaDoor
/- A region that draws its order and whose last operation writes what it loaded: as the library's law on held conditions (Derived/OrdersHeld), but behind the last operation, which waits for all others, the condition need not hold. -/
namespace Go.Proofs.YtjofegjiakjjhaaDoor
open Go
section
variable {P : Program} {ops : Array Oper} {Q : Exit → Act → World → Prop} {md : Region.Mode} {S : World → Prop} {z : Nat}

/-- Operation z waits for operation i. -/
def edgeB (md : Region.Mode) (ops : Array Oper) (z i : Nat) : Bool :=
  match ops[z]? with
  | some oz => oz.after.any fun e => Region.binds md e && e.on == i
  | none => false

theorem last_alone {i : Nat} (hz : edgeB md ops z i = true) {listed : Array Bool} (h : z ∈ Region.ready md ops listed) (hi : i ∈ Region.ready md ops listed) : False := by
  obtain ⟨_, oz, hoz, hall⟩ := mem_ready.1 h
  obtain ⟨h0, _⟩ := mem_ready.1 hi
  unfold edgeB at hz
  rw [hoz] at hz
  simp only [Array.any_eq_true, Bool.and_eq_true, beq_iff_eq] at hz
  obtain ⟨k, hk, hb, he⟩ := hz
  have h1 := hall _ (Array.getElem_mem hk) hb
  rw [he] at h1
  rcases Nat.lt_or_ge i listed.size with h' | h'
  · simp [h'] at h0 h1; rw [h0] at h1; cases h1
  · simp [Array.getElem?_eq_none h'] at h1

def wpAnyZ (P : Program) (md : Region.Mode) (ops : Array Oper) (Q : Exit → Act → World → Prop) (S : World → Prop) (z : Nat) : Nat → Array Bool → Act → World → Prop
  | 0, listed, a, w => Region.ready md ops listed = [] ∧ Q .normal a w
  | fuel + 1, listed, a, w =>
    (Region.ready md ops listed = [] → Q .normal a w) ∧
    ∀ i ∈ Region.ready md ops listed, wpOp P ops Q i (fun a' w' => (i = z ∨ S w') ∧ wpAnyZ P md ops Q S z fuel (listed.setIfInBounds i true) a' w') a w

theorem wpAny_of_Z : ∀ (fuel : Nat) (listed : Array Bool) (a : Act) (w : World), wpAnyZ P md ops Q S z fuel listed a w → wpAny P md ops Q fuel listed a w
  | 0, _, _, _, h => h
  | fuel + 1, _, _, _, h => ⟨h.1, fun i hi => wpOp_mono (fun a' w' h' => wpAny_of_Z fuel _ a' w' h'.2) (h.2 i hi)⟩

theorem firstZ {i : Nat} (hz : edgeB md ops z i = true) {oi : Oper} {v : Value} (hi : ops[i]? = some oi) (hsel : ∀ (j : Nat) (o : Oper) cs b, ops[j]? = some o → o.op ≠ .select cs b)
    (hQ : ∀ c a w, Q (.panic c) (a.put oi.dst v) w → Q (.panic c) a w) :
    ∀ (fuel : Nat) (listed : Array Bool) (a : Act) (w : World),
      (∀ j oj, ops[j]? = some oj → j ≠ i → listed.getD j true = false → (∀ e ∈ oj.after, Region.binds md e = true → e.on ≠ i) → oi.apart ops oj = true) →
      i ∈ Region.ready md ops listed → YieldsIf P ops S oi v a → S w →
      wpAnyZ P md ops Q S z fuel (listed.setIfInBounds i true) (a.put oi.dst v) w → wpAnyZ P md ops Q S z (fuel + 1) listed a w := by
  intro fuel
  induction fuel with
  | zero =>
    intro listed a w _ hr hy hS H
    refine ⟨fun h => (by rw [h] at hr; cases hr), fun j hj => ?_⟩
    by_cases hji : j = i
    · subst hji; exact hy.wpOp hi hS ⟨.inr hS, H⟩
    · have := ready_mono hj hji
      rw [H.1] at this
      cases this
  | succ fuel ih =>
    intro listed a w hfree hr hy hS H
    refine ⟨fun h => (by rw [h] at hr; cases hr), fun j hj => ?_⟩
    by_cases hji : j = i
    · subst hji; exact hy.wpOp hi hS ⟨.inr hS, H⟩
    · have hjz : j ≠ z := by
        rintro rfl
        exact last_alone hz hj hr
      have h1 := H.2 j (ready_mono hj hji)
      obtain ⟨hjun, oj, hoj, hall⟩ := mem_ready.1 hj
      have hnot : ∀ e ∈ oj.after, Region.binds md e = true → e.on ≠ i := fun e he hb heq => by
        have h1 := hall e he hb
        have h0 := (mem_ready.1 hr).1
        rw [heq] at h1
        rcases Nat.lt_or_ge i listed.size with h' | h'
        · simp [h'] at h0 h1; rw [h0] at h1; cases h1
        · simp [Array.getElem?_eq_none h'] at h1
      have h2 := wpOp_putIf hoj (hfree j oj hoj hji hjun hnot) (fun cs b => hsel i oi cs b hi) (fun cs b => hsel j oj cs b hoj) hQ hy h1
      have hfree' : ∀ k ok, ops[k]? = some ok → k ≠ i → (listed.setIfInBounds j true).getD k true = false →
          (∀ e ∈ ok.after, Region.binds md e = true → e.on ≠ i) → oi.apart ops ok = true := fun k ok hk hki hun hno => by
        refine hfree k ok hk hki ?_ hno
        by_cases hjk : j = k
        · subst hjk; exact hjun
        · rw [getD_set_ne true hjk] at hun; exact hun
      refine wpOp_mono (fun a' w' h3 => ?_) h2
      have hS' : S w' := h3.2.1.resolve_left hjz
      refine ⟨.inr hS', ih (listed.setIfInBounds j true) a' w' hfree' (ready_mono hr (Ne.symm hji)) h3.1 hS' ?_⟩
      rw [Array.setIfInBounds_comm _ _ hji]
      exact h3.2.2

/-- Operation i yields its value in every world that meets S: taken first. -/
theorem takeYZ (i : Nat) {d : Option Tmp} {op : Op} {t : TypeId} {p : String} {af : Array Edge} {g : Option (Nat × Bool)} {v : Value} {fuel : Nat} {listed : Array Bool} {a : Act} {w : World}
    (hz : edgeB md ops z i = true) (hi : ops[i]? = some ⟨d, op, t, p, af, g⟩) (hs : Region.noSelect ops = true) (hf : Region.free md ops listed i = true) (hr : (Region.ready md ops listed).contains i = true)
    (hQ : ∀ c a w, Q (.panic c) (a.put d v) w → Q (.panic c) a w) (hw : Region.wanted ⟨d, op, t, p, af, g⟩ (yielded ops a.tmps) = true) (hS : S w)
    (hy : ∀ w, S w → (execOp a.eval ⟨d, op, t, p, af, g⟩).run P w = .ok (.value v) w)
    (h : wpAnyZ P md ops Q S z fuel (listed.setIfInBounds i true) (a.put d v) w) : wpAnyZ P md ops Q S z (fuel + 1) listed a w :=
  firstZ hz hi (Region.noSelect_spec hs) hQ fuel listed a w (Region.free_spec hi hf) (by simpa using hr) (Or.inl ⟨hw, hy⟩) hS h

/-- Operation i is not wanted: passed by. -/
theorem takeNZ (i : Nat) {d : Option Tmp} {op : Op} {t : TypeId} {p : String} {af : Array Edge} {g : Option (Nat × Bool)} {fuel : Nat} {listed : Array Bool} {a : Act} {w : World}
    (hz : edgeB md ops z i = true) (hi : ops[i]? = some ⟨d, op, t, p, af, g⟩) (hs : Region.noSelect ops = true) (hf : Region.free md ops listed i = true) (hr : (Region.ready md ops listed).contains i = true)
    (hQ : ∀ c a w, Q (.panic c) (a.put d undef) w → Q (.panic c) a w) (hw : Region.wanted ⟨d, op, t, p, af, g⟩ (yielded ops a.tmps) = false) (hS : S w)
    (h : wpAnyZ P md ops Q S z fuel (listed.setIfInBounds i true) (a.put d undef) w) : wpAnyZ P md ops Q S z (fuel + 1) listed a w :=
  firstZ hz hi (Region.noSelect_spec hs) hQ fuel listed a w (Region.free_spec hi hf) (by simpa using hr) (Or.inr ⟨hw, rfl⟩) hS h

/-- Each of these comes up next. -/
def AllZ (P : Program) (md : Region.Mode) (ops : Array Oper) (Q : Exit → Act → World → Prop) (S : World → Prop) (z : Nat) (fuel : Nat) (listed : Array Bool) (a : Act) (w : World) (rs : List Nat) : Prop :=
  ∀ i ∈ rs, wpOp P ops Q i (fun a' w' => (i = z ∨ S w') ∧ wpAnyZ P md ops Q S z fuel (listed.setIfInBounds i true) a' w') a w
theorem nilZ {fuel : Nat} {listed : Array Bool} {a : Act} {w : World} : AllZ P md ops Q S z fuel listed a w [] := fun _ h => by cases h
theorem consZ (i : Nat) {d : Option Tmp} {op : Op} {t : TypeId} {p : String} {af : Array Edge} {g : Option (Nat × Bool)} {fuel : Nat} {listed : Array Bool} {a : Act} {w : World} {rs : List Nat}
    (hi : ops[i]? = some ⟨d, op, t, p, af, g⟩) (hw : Region.wanted ⟨d, op, t, p, af, g⟩ (yielded ops a.tmps) = true)
    (h : ∀ K' : Act → World → Prop, Shut (∀ a w, S w → (S w → wpAnyZ P md ops Q S z fuel (listed.setIfInBounds i true) a w) → K' a w) → Oper.wp P ⟨d, op, t, p, af, g⟩ a w K' Q)
    (hs : AllZ P md ops Q S z fuel listed a w rs) : AllZ P md ops Q S z fuel listed a w (i :: rs) := fun j hj => by
  rcases List.mem_cons.1 hj with rfl | hj
  · exact wpOp_step hi (fun K' hK => by rw [if_pos hw]; exact h K' (fun a w hS hW => hK a w ⟨.inr hS, hW hS⟩))
  · exact hs j hj
theorem readyZ {rs : List Nat} {fuel : Nat} {listed : Array Bool} {a : Act} {w : World} (hr : Region.ready md ops listed = rs) (hne : rs ≠ [])
    (h : AllZ P md ops Q S z fuel listed a w rs) : wpAnyZ P md ops Q S z (fuel + 1) listed a w := ⟨fun h0 => absurd (hr ▸ h0) hne, hr ▸ h⟩
/-- Operation i alone may come up: it is carried out, and S is shown anew behind it. -/
theorem stepZ (i : Nat) {d : Option Tmp} {op : Op} {t : TypeId} {p : String} {af : Array Edge} {g : Option (Nat × Bool)} {fuel : Nat} {listed : Array Bool} {a : Act} {w : World}
    (hi : ops[i]? = some ⟨d, op, t, p, af, g⟩) (hr : Region.ready md ops listed = [i]) (hw : Region.wanted ⟨d, op, t, p, af, g⟩ (yielded ops a.tmps) = true)
    (h : ∀ K' : Act → World → Prop, Shut (∀ a w, S w → (S w → wpAnyZ P md ops Q S z fuel (listed.setIfInBounds i true) a w) → K' a w) → Oper.wp P ⟨d, op, t, p, af, g⟩ a w K' Q) : wpAnyZ P md ops Q S z (fuel + 1) listed a w :=
  readyZ hr (by simp) (consZ i hi hw h nilZ)
/-- The last operation: nothing need hold behind it. -/
theorem endZ {d : Option Tmp} {op : Op} {t : TypeId} {p : String} {af : Array Edge} {g : Option (Nat × Bool)} {fuel : Nat} {listed : Array Bool} {a : Act} {w : World}
    (hi : ops[z]? = some ⟨d, op, t, p, af, g⟩) (hr : Region.ready md ops listed = [z]) (hr2 : Region.ready md ops (listed.setIfInBounds z true) = []) (hw : Region.wanted ⟨d, op, t, p, af, g⟩ (yielded ops a.tmps) = true)
    (h : ∀ K' : Act → World → Prop, Shut (∀ a w, Q .normal a w → K' a w) → Oper.wp P ⟨d, op, t, p, af, g⟩ a w K' Q) : wpAnyZ P md ops Q S z (fuel + 1) listed a w := by
  refine readyZ hr (by simp) (fun j hj => ?_)
  obtain rfl : j = z := by simpa using hj
  refine wpOp_step hi (fun K' hK => ?_)
  rw [if_pos hw]
  refine h K' (fun a w hQn => hK a w ⟨.inl rfl, ?_⟩)
  cases fuel with
  | zero => exact ⟨hr2, hQn⟩
  | succ f => exact ⟨fun _ => hQn, by rw [hr2]; simp⟩
theorem beginZ {id : Nat} {a : Act} {w : World} (hm : P.follows .mixedOrders = true) (hS : S w.drew)
    (h : S w.drew → wpAnyZ P .any ops Q S z ops.size (Array.replicate ops.size false) a w.drew) : (Code.region id ops true).wp P Q a w :=
  wp_region_any hm (wpAny_of_Z _ _ _ _ (h hS))
end
end Go.Proofs.YtjofegjiakjjhaaDoor
/- Script, the document's own: set, at what a flush asks for and at Fails. -/
namespace Go.Proofs.YtjofegjiakjjhaaDoor
open Go.RowKit Go.Lib Mf


def whP (x : Bs) (d : Int) (i : Nat) : Int := if i ≤ 1 then d else if i = 2 then (if x = [97, 108, 108] then 1 else d) else if i = 3 then (if x = [97, 115, 105, 100] then 2 else if x = [97, 108, 108] then 1 else d) else (if x = [118, 97] then 3 else if x = [97, 115, 105, 100] then 2 else if x = [97, 108, 108] then 1 else d)
theorem whP_end (x : Bs) (d : Int) : whP x d 4 = whatR x d := by
  unfold whP whatR
  rw [if_neg (by omega), if_neg (by omega), if_neg (by omega)]
  by_cases h1 : x = [97, 108, 108]
  · subst h1; rfl
  · by_cases h2 : x = [97, 115, 105, 100]
    · subst h2; rfl
    · simp only [if_neg h1, if_neg h2]
def WhR (w : World) (rb : Nat) (x : Bs) (d : Int) (cs : Int → Array Value) (zs : Array Value) (v8 : Value) (wr : World) : Prop := ∃ i : Nat, v8 = .int .i64 i ∧ 1 ≤ i ∧ i ≤ 4 ∧ Blk wr w.heap.size 25 (cs (whP x d i)) ∧ Blk wr rb 25 zs ∧ Below w.heap.size w wr
set_option maxRecDepth 20000 in
set_option maxHeartbeats 4000000 in
theorem rset_l (d : St) (F : Value) (x : Bs) (hx : x.length ≤ 100000) (B : Nat) {w : World} (hB : B ≤ w.heap.size) (ho : BRow w B F d.fails) :
    Calls Tryd.prog 34 #[.agg (stC d F), .int .u8 102, bv x] w (SetIs .l F (setR d .l x) B w) := by
  obtain ⟨z, hz⟩ : ∃ z, numR x = z := ⟨_, rfl⟩
  have hc := fun w => rnumr x hx w
  rw [hz] at hc
  have HC := Lib.hid hc
  unfold SetIs setR
  dsimp only
  rw [← whP_end]
  clear hz hc hx
  obtain ⟨A, cc, rfl⟩ := ho.form
  have HBX := Lib.hid (fun (cs ds : Array Value) => ((Below.refl w.heap.size w).alloc (Nat.le_refl _) (.cells cs 25)).alloc (show w.heap.size ≤ _ from by simp) (.cells ds 25))
  have HO := Lib.hid ho
  clear ho
  unfold stC
  generalize d.kind = a0, d.guest = a1, d.addr = a2, d.size = a3, d.value = a4, d.page = a5, d.on = a6, d.asid = a7, d.what = a8, d.set = a9, d.way = a10, d.fails = l at *
  go_enter Tryd.func34, Tryd.ntmps34
  go_upto_region 1 with fail
  have hsz1 : ∀ cs : Array Value, (w.alloc (.cells cs 25)).heap.size = w.heap.size + 1 := fun cs => by simp
  have HS := Lib.hid (fun cs zs => (show Blk ((w.alloc (.cells cs 25)).alloc (.cells zs 25)) w.heap.size 25 cs from (Blk.new w _ _).alloc _))
  have HR := Lib.hid (fun cs zs => (show Blk ((w.alloc (.cells cs 25)).alloc (.cells zs 25)) (w.heap.size + 1) 25 zs from by rw [← hsz1 cs]; exact Blk.new _ _ _))
  have HBE := Lib.hid (HBX.out #[.int .i64 a0, .int .i64 a1, .int .u64 a2, .int .i64 a3, .int .u64 a4, .int .i64 a5, .bool a6, .int .i64 a7, .int .i64 a8, .int .i64 a9, .int .i64 a10, .slice A l.length cc] #[.int .i64 0, .int .i64 0, .int .u64 0, .int .i64 0, .int .u64 0, .int .i64 0, .bool false, .int .i64 0, .int .i64 0, .int .i64 0, .int .i64 0, .slice none 0 0])
  replace HS := Lib.hid (HS.out #[.int .i64 a0, .int .i64 a1, .int .u64 a2, .int .i64 a3, .int .u64 a4, .int .i64 a5, .bool a6, .int .i64 a7, .int .i64 a8, .int .i64 a9, .int .i64 a10, .slice A l.length cc] #[.int .i64 0, .int .i64 0, .int .u64 0, .int .i64 0, .int .u64 0, .int .i64 0, .bool false, .int .i64 0, .int .i64 0, .int .i64 0, .int .i64 0, .slice none 0 0])
  replace HR := Lib.hid (HR.out #[.int .i64 a0, .int .i64 a1, .int .u64 a2, .int .i64 a3, .int .u64 a4, .int .i64 a5, .bool a6, .int .i64 a7, .int .i64 a8, .int .i64 a9, .int .i64 a10, .slice A l.length cc] #[.int .i64 0, .int .i64 0, .int .u64 0, .int .i64 0, .int .u64 0, .int .i64 0, .bool false, .int .i64 0, .int .i64 0, .int .i64 0, .int .i64 0, .slice none 0 0])
  clear hsz1 HBX
  obtain ⟨rb, hrb⟩ : ∃ n, w.heap.size + 1 = n := ⟨_, rfl⟩
  have HRB := Lib.hid (show w.heap.size < rb from by omega)
  rw [hrb] at HR ⊢
  clear hrb
  generalize (w.alloc (.cells #[.int .i64 a0, .int .i64 a1, .int .u64 a2, .int .i64 a3, .int .u64 a4, .int .i64 a5, .bool a6, .int .i64 a7, .int .i64 a8, .int .i64 a9, .int .i64 a10, .slice A l.length cc] 25)).alloc (.cells #[.int .i64 0, .int .i64 0, .int .u64 0, .int .i64 0, .int .u64 0, .int .i64 0, .bool false, .int .i64 0, .int .i64 0, .int .i64 0, .int .i64 0, .slice none 0 0] 25) = w2 at *
  go_wp2_with fail
  refine (HC.out _).mono ?_; rintro e _ ⟨rfl, rfl⟩
  go_wp2_with fail
  go_loopw [8] (WhR w rb x a8 (fun y => #[.int .i64 a0, .int .i64 a1, .int .u64 a2, .int .i64 a3, .int .u64 a4, .int .i64 a5, .bool a6, .int .i64 a7, .int .i64 y, .int .i64 a9, .int .i64 a10, .slice A l.length cc]) #[.int .i64 0, .int .i64 0, .int .u64 0, .int .i64 0, .int .u64 0, .int .i64 0, .bool false, .int .i64 0, .int .i64 0, .int .i64 0, .int .i64 0, .slice none 0 0]) (fun v _ => 4 - cntZ v)
  case atStart => exact ⟨1, rfl, Nat.le_refl _, by omega, HS.out, HR.out, HBE.out⟩
  case round =>
    clear HS HR HBE
    obtain ⟨i, rfl, hi1, hi4, hS, hR, hbe⟩ := hrel
    have HS := Lib.hid hS
    have HR := Lib.hid hR
    have HBE := Lib.hid hbe
    clear hS hR hbe
    dsimp only at HS
    rcases (show i = 1 ∨ i = 2 ∨ i = 3 ∨ i = 4 by omega) with rfl | rfl | rfl | rfl
    · have hc0 := ((HS.out.alloc (.cells #[bv [], bv [97, 108, 108], bv [97, 115, 105, 100], bv [118, 97]] 9)).cell 8).trans rfl
      have hf0 := (HS.out.alloc (.cells #[bv [], bv [97, 108, 108], bv [97, 115, 105, 100], bv [118, 97]] 9)).frozen 8
      obtain ⟨b, hb1⟩ : ∃ b, (x == [97, 108, 108]) = b := ⟨_, rfl⟩
      have q1 : ((x == [97, 108, 108]) = b) := hb1
      cases b with
      | true =>
        have hxw : x = [97, 108, 108] := by simpa using q1
        have HP := Lib.hid (show whP x a8 2 = 1 from by rw [hxw]; rfl)
        clear hxw
        go_wp2
        refine ⟨⟨2, by go_num, by omega, by omega, ?_, ?_, ?_⟩, by simp [cntZ]⟩
        · rw [HP.out]; exact (HS.out.alloc _).set_ 8 (.int .i64 1)
        · exact (HR.out.alloc _).far (p := ⟨w.heap.size, 8, none⟩) (show rb ≠ w.heap.size from Nat.ne_of_gt HRB.out) _
        · exact ((HBE.out.alloc HBE.out.size _)).setCell (p := ⟨w.heap.size, 8, none⟩) (Nat.le_refl _) _
      | false =>
        have hxw : x ≠ [97, 108, 108] := by simpa using q1
        have HP := Lib.hid (show whP x a8 2 = whP x a8 1 from by unfold whP; simp [hxw])
        clear hxw
        go_wp2
        exact ⟨⟨2, by go_num, by omega, by omega, by rw [HP.out]; exact HS.out.alloc _, HR.out.alloc _, HBE.out.alloc HBE.out.size _⟩, by simp [cntZ]⟩
    · have hc0 := ((HS.out.alloc (.cells #[bv [], bv [97, 108, 108], bv [97, 115, 105, 100], bv [118, 97]] 9)).cell 8).trans rfl
      have hf0 := (HS.out.alloc (.cells #[bv [], bv [97, 108, 108], bv [97, 115, 105, 100], bv [118, 97]] 9)).frozen 8
      obtain ⟨b, hb2⟩ : ∃ b, (x == [97, 115, 105, 100]) = b := ⟨_, rfl⟩
      have q2 : ((x == [97, 115, 105, 100]) = b) := hb2
      cases b with
      | true =>
        have hxw : x = [97, 115, 105, 100] := by simpa using q2
        have HP := Lib.hid (show whP x a8 3 = 2 from by rw [hxw]; rfl)
        clear hxw
        go_wp2
        refine ⟨⟨3, by go_num, by omega, by omega, ?_, ?_, ?_⟩, by simp [cntZ]⟩
        · rw [HP.out]; exact (HS.out.alloc _).set_ 8 (.int .i64 2)
        · exact (HR.out.alloc _).far (p := ⟨w.heap.size, 8, none⟩) (show rb ≠ w.heap.size from Nat.ne_of_gt HRB.out) _
        · exact ((HBE.out.alloc HBE.out.size _)).setCell (p := ⟨w.heap.size, 8, none⟩) (Nat.le_refl _) _
      | false =>
        have hxw : x ≠ [97, 115, 105, 100] := by simpa using q2
        have HP := Lib.hid (show whP x a8 3 = whP x a8 2 from by unfold whP; simp [hxw])
        clear hxw
        go_wp2
        exact ⟨⟨3, by go_num, by omega, by omega, by rw [HP.out]; exact HS.out.alloc _, HR.out.alloc _, HBE.out.alloc HBE.out.size _⟩, by simp [cntZ]⟩
    · have hc0 := ((HS.out.alloc (.cells #[bv [], bv [97, 108, 108], bv [97, 115, 105, 100], bv [118, 97]] 9)).cell 8).trans rfl
      have hf0 := (HS.out.alloc (.cells #[bv [], bv [97, 108, 108], bv [97, 115, 105, 100], bv [118, 97]] 9)).frozen 8
      obtain ⟨b, hb3⟩ : ∃ b, (x == [118, 97]) = b := ⟨_, rfl⟩
      have q3 : ((x == [118, 97]) = b) := hb3
      cases b with
      | true =>
        have hxw : x = [118, 97] := by simpa using q3
        have HP := Lib.hid (show whP x a8 4 = 3 from by rw [hxw]; rfl)
        clear hxw
        go_wp2
        refine ⟨⟨4, by go_num, by omega, by omega, ?_, ?_, ?_⟩, by simp [cntZ]⟩
        · rw [HP.out]; exact (HS.out.alloc _).set_ 8 (.int .i64 3)
        · exact (HR.out.alloc _).far (p := ⟨w.heap.size, 8, none⟩) (show rb ≠ w.heap.size from Nat.ne_of_gt HRB.out) _
        · exact ((HBE.out.alloc HBE.out.size _)).setCell (p := ⟨w.heap.size, 8, none⟩) (Nat.le_refl _) _
      | false =>
        have hxw : x ≠ [118, 97] := by simpa using q3
        have HP := Lib.hid (show whP x a8 4 = whP x a8 3 from by unfold whP; simp [hxw])
        clear hxw
        go_wp2
        exact ⟨⟨4, by go_num, by omega, by omega, by rw [HP.out]; exact HS.out.alloc _, HR.out.alloc _, HBE.out.alloc HBE.out.size _⟩, by simp [cntZ]⟩
    · go_upto_region 33 with fail
      rename_i hK
      apply wp_region_lit
      refine wpList_load_row rfl 25 _ rfl w.heap.size rfl 25 _ (0, 0) _ HS.out Tryd.underlying25 rfl (by kernel_rfl) ?_
      (try simp only [Act.put, List.setIfInBounds_toArray, List.set_cons_zero, List.set_cons_succ])
      refine wpList_store_rowTo rfl 25 _ _ rfl rfl rb _ rfl rfl 25 _ HR.out (by kernel_rfl) (by kernel_rfl) (by kernel_rfl) ?_
      refine wpList_nil ?_
      refine hK _ _ ?_
      apply wp_ret
      refine bodyPost_ret (results_cell_row rfl _ _ rb 25 _ (0, 0) _ rfl (setRow_heap _ rb _ _ 25 (0, 0) HR.out) Tryd.underlying25 rfl (by kernel_rfl)) rfl ?_
      have hbf := below_setRow HBE.out (Nat.le_of_lt HRB.out) #[.int .i64 a0, .int .i64 a1, .int .u64 a2, .int .i64 a3, .int .u64 a4, .int .i64 a5, .bool a6, .int .i64 a7, .int .i64 (whP x a8 4), .int .i64 a9, .int .i64 a10, .slice A l.length cc]
      exact ⟨_, fun _ => rfl, rfl, own_below HO.out hbf, hbf.mono hB⟩
def FsR (w : World) (rb : Nat) (x : Bs) (cs : Value → Array Value) (zs : Array Value) (v9 : Value) (wr : World) : Prop := ∃ (i : Nat) (F : Value), v9 = .int .i64 i ∧ i ≤ x.length ∧ (x = [45] → i = 0) ∧ Blk wr w.heap.size 25 (cs F) ∧ Blk wr rb 25 zs ∧ BRow wr (rb + 1) F ((x.take i).map fun b => b == 120) ∧ Below w.heap.size w wr
theorem infoB : (Tryd.prog.info? 4).map (fun i => (i.zero, i.size, i.bytes)) = some (some (.bool false), 1, 1) := by kernel_rfl
set_option maxRecDepth 20000 in
set_option maxHeartbeats 4000000 in
theorem rset_f (d : St) (x : Bs) (hx : x.length ≤ 100000) (hd : d.fails = []) (B : Nat) {w : World} (hB : B ≤ w.heap.size) :
    Calls Tryd.prog 34 #[.agg (stC d (.slice none 0 0)), .int .u8 98, bv x] w (SetIs .f (.slice none 0 0) (setR d .f x) B w) := by
  have ho : BRow w B (.slice none 0 0) d.fails := by rw [hd]; exact World.ownsRow_nil _ _ _ _
  obtain ⟨i0, hi0, hz0', hz1, hz2⟩ := info_parts infoB
  obtain ⟨z, hz⟩ : ∃ z, numR x = z := ⟨_, rfl⟩
  have hc := fun w => rnumr x hx w
  rw [hz] at hc
  have HC := Lib.hid hc
  unfold SetIs setR
  dsimp only
  rw [hd, List.nil_append]
  clear hz hc hd ho
  obtain ⟨n, hn⟩ : ∃ n, x.length = n := ⟨_, rfl⟩
  have HBX := Lib.hid (fun (cs ds : Array Value) => ((Below.refl w.heap.size w).alloc (Nat.le_refl _) (.cells cs 25)).alloc (show w.heap.size ≤ _ from by simp) (.cells ds 25))
  unfold stC
  generalize d.kind = a0, d.guest = a1, d.addr = a2, d.size = a3, d.value = a4, d.page = a5, d.on = a6, d.asid = a7, d.what = a8, d.set = a9, d.way = a10 at *
  go_enter Tryd.func34, Tryd.ntmps34
  go_upto_region 1 with fail
  have hsz1 : ∀ cs : Array Value, (w.alloc (.cells cs 25)).heap.size = w.heap.size + 1 := fun cs => by simp
  have HS := Lib.hid (fun cs zs => (show Blk ((w.alloc (.cells cs 25)).alloc (.cells zs 25)) w.heap.size 25 cs from (Blk.new w _ _).alloc _))
  have HR := Lib.hid (fun cs zs => (show Blk ((w.alloc (.cells cs 25)).alloc (.cells zs 25)) (w.heap.size + 1) 25 zs from by rw [← hsz1 cs]; exact Blk.new _ _ _))
  have HBE := Lib.hid (HBX.out #[.int .i64 a0, .int .i64 a1, .int .u64 a2, .int .i64 a3, .int .u64 a4, .int .i64 a5, .bool a6, .int .i64 a7, .int .i64 a8, .int .i64 a9, .int .i64 a10, .slice none 0 0] #[.int .i64 0, .int .i64 0, .int .u64 0, .int .i64 0, .int .u64 0, .int .i64 0, .bool false, .int .i64 0, .int .i64 0, .int .i64 0, .int .i64 0, .slice none 0 0])
  replace HS := Lib.hid (HS.out #[.int .i64 a0, .int .i64 a1, .int .u64 a2, .int .i64 a3, .int .u64 a4, .int .i64 a5, .bool a6, .int .i64 a7, .int .i64 a8, .int .i64 a9, .int .i64 a10, .slice none 0 0] #[.int .i64 0, .int .i64 0, .int .u64 0, .int .i64 0, .int .u64 0, .int .i64 0, .bool false, .int .i64 0, .int .i64 0, .int .i64 0, .int .i64 0, .slice none 0 0])
  replace HR := Lib.hid (HR.out #[.int .i64 a0, .int .i64 a1, .int .u64 a2, .int .i64 a3, .int .u64 a4, .int .i64 a5, .bool a6, .int .i64 a7, .int .i64 a8, .int .i64 a9, .int .i64 a10, .slice none 0 0] #[.int .i64 0, .int .i64 0, .int .u64 0, .int .i64 0, .int .u64 0, .int .i64 0, .bool false, .int .i64 0, .int .i64 0, .int .i64 0, .int .i64 0, .slice none 0 0])
  clear hsz1 HBX
  obtain ⟨rb, hrb⟩ : ∃ n, w.heap.size + 1 = n := ⟨_, rfl⟩
  have HRB := Lib.hid (show w.heap.size < rb from by omega)
  rw [hrb] at HR ⊢
  clear hrb
  generalize (w.alloc (.cells #[.int .i64 a0, .int .i64 a1, .int .u64 a2, .int .i64 a3, .int .u64 a4, .int .i64 a5, .bool a6, .int .i64 a7, .int .i64 a8, .int .i64 a9, .int .i64 a10, .slice none 0 0] 25)).alloc (.cells #[.int .i64 0, .int .i64 0, .int .u64 0, .int .i64 0, .int .u64 0, .int .i64 0, .bool false, .int .i64 0, .int .i64 0, .int .i64 0, .int .i64 0, .slice none 0 0] 25) = w2 at *
  go_wp2_with fail
  refine (HC.out _).mono ?_; rintro e _ ⟨rfl, rfl⟩
  go_wp2_with fail
  go_loopw [9] (FsR w rb x (fun F => #[.int .i64 a0, .int .i64 a1, .int .u64 a2, .int .i64 a3, .int .u64 a4, .int .i64 a5, .bool a6, .int .i64 a7, .int .i64 a8, .int .i64 a9, .int .i64 a10, F]) #[.int .i64 0, .int .i64 0, .int .u64 0, .int .i64 0, .int .u64 0, .int .i64 0, .bool false, .int .i64 0, .int .i64 0, .int .i64 0, .int .i64 0, .slice none 0 0]) (fun v _ => n - cntZ v)
  case atStart => exact ⟨0, .slice none 0 0, rfl, Nat.zero_le _, fun _ => rfl, HS.out, HR.out, World.ownsRow_nil _ _ _ _, HBE.out⟩
  case round =>
    clear HS HR HBE
    obtain ⟨i, F, rfl, hi, hx45, hS, hR, hW, hbe⟩ := hrel
    have HS := Lib.hid hS
    have HR := Lib.hid hR
    have HW := Lib.hid hW
    have HBE := Lib.hid hbe
    clear hS hR hW hbe
    dsimp only at HS
    obtain ⟨FA, Fc, rfl⟩ := HW.out.form
    have hfl : ((x.take i).map fun b => b == 120).length = i := by rw [List.length_map, List.length_take]; omega
    unfold BRow at HW
    rw [hfl] at HW HS
    have HFIN := Lib.hid (fun (cs : Array Value) (hbf : Below w.heap.size w (wr.setRow rb cs)) => (show BRow (wr.setRow rb cs) B (.slice FA i Fc) ((x.take i).map fun b => b == 120) from by
      have hw8 := HW.out
      have ho8 : Only (fun g => g = rb) wr (wr.setRow rb cs) := ⟨rfl, rfl, rfl, by simp, fun k hk hn9 => setRow_other wr rb k cs hn9⟩
      have := own_only hw8 ho8 (fun k hk => by omega)
      unfold BRow
      rw [hfl]
      exact ownsRow_mono this (by have := HRB.out; omega)))
    clear hfl
    obtain ⟨b45, hb45⟩ : ∃ b, (x == [45]) = b := ⟨_, rfl⟩
    by_cases hin : i < n
    · have g1 : decide ((i : Int) < (n : Int)) = true := by simp; exact hin
      have g1' : decide (i < n) = true := by simp; exact hin
      cases b45 with
      | true =>
        have hxe : x = [45] := by simpa using hb45
        have hi00 := hx45 hxe
        have HFR := Lib.hid (show failR x = ((x.take i).map fun b => b == 120) from by rw [hi00]; unfold failR; rw [if_pos hxe]; rfl)
        clear hxe hx45 hi00
        go_upto_region 33 with fail
        rename_i hK
        apply wp_region_lit
        refine wpList_load_row rfl 25 _ rfl w.heap.size rfl 25 _ (0, 0) _ HS.out Tryd.underlying25 rfl (by kernel_rfl) ?_
        (try simp only [Act.put, List.setIfInBounds_toArray, List.set_cons_zero, List.set_cons_succ])
        refine wpList_store_rowTo rfl 25 _ _ rfl rfl rb _ rfl rfl 25 _ HR.out (by kernel_rfl) (by kernel_rfl) (by kernel_rfl) ?_
        refine wpList_nil ?_
        refine hK _ _ ?_
        apply wp_ret
        refine bodyPost_ret (results_cell_row rfl _ _ rb 25 _ (0, 0) _ rfl (setRow_heap _ rb _ _ 25 (0, 0) HR.out) Tryd.underlying25 rfl (by kernel_rfl)) rfl ?_
        have hbf := below_setRow HBE.out (Nat.le_of_lt HRB.out) #[.int .i64 a0, .int .i64 a1, .int .u64 a2, .int .i64 a3, .int .u64 a4, .int .i64 a5, .bool a6, .int .i64 a7, .int .i64 a8, .int .i64 a9, .int .i64 a10, .slice FA i Fc]
        exact ⟨_, fun h => absurd rfl h, rfl, by rw [HFR.out]; exact HFIN.out _ hbf, hbf.mono hB⟩
      | false =>
        have hil : i < x.length := by omega
        have hsz : i < (⟨x.toArray⟩ : ByteArray).size := hil
        obtain ⟨y, hy⟩ : ∃ y : Nat, ((⟨x.toArray⟩ : ByteArray)[i]'hsz).toNat = y := ⟨_, rfl⟩
        obtain ⟨bq, hbq⟩ : ∃ b, ((y : Int) == 120) = b := ⟨_, rfl⟩
        have HBQ := Lib.hid (show (x.take (i + 1)).map (fun b => b == 120) = (x.take i).map (fun b => b == 120) ++ [bq] from by
          rw [List.take_succ_eq_append_getElem hil, List.map_append, List.map_singleton]
          congr 2
          rw [← hbq, ← hy]
          have : ∀ n : Fin 256, (UInt8.ofNat n.1 == 120) = (((UInt8.ofNat n.1).toNat : Int) == 120) := by decide +kernel
          have h9 := this ⟨(x[i]).toNat, UInt8.toNat_lt _⟩
          have e : UInt8.ofNat (x[i]).toNat = x[i] := by simp
          rw [e] at h9
          exact h9)
        have HX45 := Lib.hid (show x ≠ [45] from by simpa using hb45)
        clear hx45
        go_upto_region 20 with fail
        refine beginZ (z := 9) (S := (fun w' => w'.cell? ⟨w.heap.size, 11, none⟩ = some (.slice FA i Fc) ∧ w'.frozen? ⟨w.heap.size, 11, none⟩ = false)) (by kernel_rfl) ?_ (fun hHeld => ?_)
        · exact ⟨(HS.out.cell 11).trans rfl, HS.out.frozen 11⟩
        replace HS := Lib.hid (show Blk wr.drew w.heap.size 25 _ from HS.out)
        replace HR := Lib.hid (show Blk wr.drew rb 25 _ from HR.out)
        replace HW := Lib.hid (own_below HW.out (Below.refl _ _).drew)
        replace HBE := Lib.hid (HBE.out.drew)
        have HRL := Lib.hid (show rb + 1 ≤ wr.drew.heap.size from HR.out.lt)
        generalize wr.drew = w0 at *
        ((refine takeYZ 0 (by kernel_rfl) (v := ?_) rfl (by kernel_rfl) (by kernel_rfl) (by kernel_rfl) (fun _ _ _ h => h) (by rfl) (by assumption) ?_ ?_; rotate_left; · (intro w hSw; (try dsimp only at hSw); go_simp; (first | done | with_reducible rfl))))
        (try simp only [Act.put, List.setIfInBounds_toArray, List.set_cons_zero, List.set_cons_succ])
        ((refine takeYZ 1 (by kernel_rfl) (v := ?_) rfl (by kernel_rfl) (by kernel_rfl) (by kernel_rfl) (fun _ _ _ h => h) (by rfl) (by assumption) ?_ ?_; rotate_left; · (intro w hSw; (try dsimp only at hSw); go_simp; (first | done | with_reducible rfl))))
        (try simp only [Act.put, List.setIfInBounds_toArray, List.set_cons_zero, List.set_cons_succ])
        ((refine takeYZ 2 (by kernel_rfl) (v := ?_) rfl (by kernel_rfl) (by kernel_rfl) (by kernel_rfl) (fun _ _ _ h => h) (by rfl) (by assumption) ?_ ?_; rotate_left; · (intro w hSw; (try dsimp only at hSw); go_simp; (first | done | with_reducible rfl))))
        (try simp only [Act.put, List.setIfInBounds_toArray, List.set_cons_zero, List.set_cons_succ])
        ((refine takeYZ 3 (by kernel_rfl) (v := ?_) rfl (by kernel_rfl) (by kernel_rfl) (by kernel_rfl) (fun _ _ _ h => h) (by rfl) (by assumption) ?_ ?_; rotate_left; · (intro w hSw; (try dsimp only at hSw); go_simp; (first | done | with_reducible rfl))))
        (try simp only [Act.put, List.setIfInBounds_toArray, List.set_cons_zero, List.set_cons_succ])
        ((refine takeYZ 4 (by kernel_rfl) (v := ?_) rfl (by kernel_rfl) (by kernel_rfl) (by kernel_rfl) (fun _ _ _ h => h) (by rfl) (by assumption) ?_ ?_; rotate_left; · (intro w hSw; (try dsimp only at hSw); go_simp; (first | done | with_reducible rfl))))
        (try simp only [Act.put, List.setIfInBounds_toArray, List.set_cons_zero, List.set_cons_succ])
        ((refine takeYZ 5 (by kernel_rfl) (v := ?_) rfl (by kernel_rfl) (by kernel_rfl) (by kernel_rfl) (fun _ _ _ h => h) (by rfl) (by assumption) ?_ ?_; rotate_left; · (intro w hSw; (try dsimp only at hSw); go_simp; (first | done | with_reducible rfl))))
        (try simp only [Act.put, List.setIfInBounds_toArray, List.set_cons_zero, List.set_cons_succ])
        refine stepZ 6 rfl (by kernel_rfl) (by rfl) (fun K hK => ?_)
        go_simp
        (refine hK.out _ _ ?_ (fun hHeld => ?_))
        · exact ⟨((HS.out.alloc _).cell 11).trans rfl, (HS.out.alloc _).frozen 11⟩
        clear hK K
        have HN1 := Lib.hid (reads_one1 w0 (.bool bq) 4)
        replace HS := Lib.hid (HS.out.alloc (.cells #[.bool bq] 4))
        replace HR := Lib.hid (HR.out.alloc (.cells #[.bool bq] 4))
        replace HW := Lib.hid (HW.out.alloc (.cells #[.bool bq] 4))
        replace HBE := Lib.hid (HBE.out.alloc HBE.out.size (.cells #[.bool bq] 4))
        have HRL2 := Lib.hid (show rb + 1 ≤ (w0.alloc (.cells #[.bool bq] 4)).heap.size from by have := HRL.out; simp; omega)
        generalize hwn : w0.alloc (.cells #[.bool bq] 4) = wa at *
        clear hwn
        refine stepZ 7 rfl (by kernel_rfl) (by rfl) (fun K hK => ?_)
        (refine wp_append_any _ (.tmp 61) (.tmp 66) _ rfl (rb + 1) 4 i0 _ 1 1 Tryd.underlying23 hi0 hz0' hz1 hz2 rfl (by omega) _ i _ rfl HW.out _ (some ⟨w0.heap.size, 0, none⟩) 1 _ [.bool bq] rfl HN1.out (by simp; rfl) (by unfold maxLen; omega) (by omega) HRL2.out ?_; intro v2 w3 hown2 hg2 hat2)
        have hne : ∀ g, g ≤ rb → some g ≠ (Value.slice FA i Fc).ownBlock := fun g hg e => by have := (HW.out.lt g e.symm).1; omega
        replace HS := Lib.hid (HS.out.grown hg2 (hne _ (Nat.le_of_lt HRB.out)))
        replace HR := Lib.hid (HR.out.grown hg2 (hne _ (Nat.le_refl _)))
        replace HBE := Lib.hid (HBE.out.grown hg2 HBE.out.size (fun g hg => by have := (HW.out.lt g hg).1; have := HRB.out; omega))
        clear hne
        replace HW := Lib.hid hown2
        clear hg2 hat2 hown2
        (refine hK.out _ _ ?_ (fun hHeld => ?_))
        · exact ⟨(HS.out.cell 11).trans rfl, HS.out.frozen 11⟩
        clear hK K
        ((refine takeYZ 8 (by kernel_rfl) (v := ?_) rfl (by kernel_rfl) (by kernel_rfl) (by kernel_rfl) (fun _ _ _ h => h) (by rfl) (by assumption) ?_ ?_; rotate_left; · (intro w hSw; (try dsimp only at hSw); go_simp; (first | done | with_reducible rfl))))
        (try simp only [Act.put, List.setIfInBounds_toArray, List.set_cons_zero, List.set_cons_succ])
        refine endZ rfl (by kernel_rfl) (by kernel_rfl) (by rfl) (fun K hK => ?_)
        obtain ⟨hq1, hq2⟩ := hHeld
        obtain ⟨A2, C2, rfl⟩ : ∃ A c, v2 = .slice A (i + 1) c := by
          rcases own_cases HW.out with ⟨_, h0⟩ | ⟨g, cc2, h1, _⟩
          · omega
          · exact ⟨_, _, h1⟩
        go_simp
        refine hK.out _ _ ?_
        clear hK K hq1 hq2
        go_wp2
        refine ⟨⟨i + 1, .slice A2 (i + 1) C2, by go_num, by omega, fun e => absurd e HX45.out, HS.out.set_ 11 _, HR.out.far (p := ⟨w.heap.size, 11, none⟩) (show rb ≠ w.heap.size from Nat.ne_of_gt HRB.out) _, ?_, HBE.out.setCell (p := ⟨w.heap.size, 11, none⟩) (Nat.le_refl _) _⟩, cntZ_lt hin⟩
        have hw9 := own_only HW.out (Only.setCell (S := fun g => g = w.heap.size) (Only.refl _ w3) (p := ⟨w.heap.size, 11, none⟩) (.inl rfl) (.slice A2 (i + 1) C2)) (fun k hk => by have := HRB.out; omega)
        unfold BRow
        rw [HBQ.out, List.map_append]
        rw [show ((x.take i).map (fun b => b == 120) ++ [bq]).length = i + 1 from by simp; omega]
        exact hw9
    · obtain rfl : i = n := by omega
      have g1 : decide ((i : Int) < (i : Int)) = false := by simp
      have HFR := Lib.hid (show failR x = ((x.take i).map fun b => b == 120) from by
        rw [List.take_of_length_le (by omega)]
        unfold failR
        rw [if_neg]
        intro e
        have := hx45 e
        rw [e] at hn
        simp at hn
        omega)
      clear hx45
      go_upto_region 33 with fail
      rename_i hK
      apply wp_region_lit
      refine wpList_load_row rfl 25 _ rfl w.heap.size rfl 25 _ (0, 0) _ HS.out Tryd.underlying25 rfl (by kernel_rfl) ?_
      (try simp only [Act.put, List.setIfInBounds_toArray, List.set_cons_zero, List.set_cons_succ])
      refine wpList_store_rowTo rfl 25 _ _ rfl rfl rb _ rfl rfl 25 _ HR.out (by kernel_rfl) (by kernel_rfl) (by kernel_rfl) ?_
      refine wpList_nil ?_
      refine hK _ _ ?_
      apply wp_ret
      refine bodyPost_ret (results_cell_row rfl _ _ rb 25 _ (0, 0) _ rfl (setRow_heap _ rb _ _ 25 (0, 0) HR.out) Tryd.underlying25 rfl (by kernel_rfl)) rfl ?_
      have hbf := below_setRow HBE.out (Nat.le_of_lt HRB.out) #[.int .i64 a0, .int .i64 a1, .int .u64 a2, .int .i64 a3, .int .u64 a4, .int .i64 a5, .bool a6, .int .i64 a7, .int .i64 a8, .int .i64 a9, .int .i64 a10, .slice FA i Fc]
      exact ⟨_, fun h => absurd rfl h, rfl, by rw [HFR.out]; exact HFIN.out _ hbf, hbf.mono hB⟩
end Go.Proofs.YtjofegjiakjjhaaDoor
/- Script, the document's own: set, all letters; what the words give. -/
namespace Go.Proofs.YtjofegjiakjjhaaDoor
open Go.RowKit Go.Lib Mf

theorem rset (d : St) (c : Fd) (F : Value) (x : Bs) (hx : x.length ≤ 100000) (B : Nat) {w : World} (hB : B ≤ w.heap.size) (ho : BRow w B F d.fails) (hf : c = .f → F = .slice none 0 0 ∧ d.fails = []) :
    Calls Tryd.prog 34 #[.agg (stC d F), .int .u8 ((rcd c).toNat : Int), bv x] w (SetIs c F (setR d c x) B w) := by
  cases c
  · exact rset_g d F x hx B hB ho
  · exact rset_p d F x hx B hB ho
  · exact rset_s d F x hx B hB ho
  · exact rset_a d F x hx B hB ho
  · exact rset_w d F x hx B hB ho
  · exact rset_t d F x hx B hB ho
  · exact rset_x d F x hx B hB ho
  · exact rset_v d F x hx B hB ho
  · exact rset_o d F x hx B hB ho
  · exact rset_r d F x hx B hB ho
  · exact rset_l d F x hx B hB ho
  · obtain ⟨rfl, h⟩ := hf rfl
    exact rset_f d x hx h B hB
theorem numF_lt : ∀ (l : Bs) (n k : Nat), numF n l = some k → k < (n + 1) * 10 ^ l.length
  | [], n, k, h => by rw [numF] at h; injection h with h; subst h; simp
  | b :: l, n, k, h => by
    rw [numF] at h
    split at h
    · have := numF_lt l _ k h
      have h9 : (n * 10 + (b.toNat - 48) + 1) ≤ (n + 1) * 10 := by omega
      have := Nat.mul_le_mul_right (10 ^ l.length) h9
      rw [List.length_cons, Nat.pow_succ]
      have e : (n + 1) * (10 ^ l.length * 10) = (n + 1) * 10 * 10 ^ l.length := by rw [Nat.mul_comm (10 ^ l.length) 10, Nat.mul_assoc]
      omega
    · cases h
theorem numR_bd (l : Bs) : -1 ≤ numR l ∧ numR l < 10000000000 := by
  unfold numR
  split
  · omega
  · rename_i h
    cases hk : numF 0 l with
    | none => dsimp only; omega
    | some k =>
      dsimp only
      have := numF_lt l 0 k hk
      have h2 : 10 ^ l.length ≤ 10 ^ 10 := Nat.pow_le_pow_right (by omega) (by omega)
      omega
theorem hexF_lt : ∀ (l : Bs) (v : Nat), hexF v l < (v + 1) * 16 ^ l.length
  | [], v => by rw [hexF]; simp
  | b :: l, v => by
    obtain ⟨v', e1, h9⟩ : ∃ v', hexF v (b :: l) = hexF v' l ∧ v' + 1 ≤ (v + 1) * 16 := by
      rw [hexF]
      cases hb : hval b with
      | none => exact ⟨v, rfl, by omega⟩
      | some k => exact ⟨v * 16 + k, rfl, by have := hval_lt hb; omega⟩
    have h1 := hexF_lt l v'
    have := Nat.mul_le_mul_right (16 ^ l.length) h9
    rw [e1, List.length_cons, Nat.pow_succ]
    have e : (v + 1) * (16 ^ l.length * 16) = (v + 1) * 16 * 16 ^ l.length := by rw [Nat.mul_comm (16 ^ l.length) 16, Nat.mul_assoc]
    omega
theorem hexR_bd (l : Bs) : hexR l < 18446744073709551616 := by
  unfold hexR
  have h1 := hexF_lt ((l.drop 2).take 16) 0
  have h2 : ((l.drop 2).take 16).length ≤ 16 := by rw [List.length_take]; omega
  have h3 : 16 ^ ((l.drop 2).take 16).length ≤ 16 ^ 16 := Nat.pow_le_pow_right (by omega) h2
  omega
theorem setR_ok {d : St} (hd : d.ok) (c : Fd) (x : Bs) : (setR d c x).ok := by
  have h1 := numR_bd x
  have h2 := hexR_bd x
  have h3 : i64ok (whatR x d.what) := by
    unfold whatR
    split
    · exact ⟨by omega, by omega⟩
    · split
      · exact ⟨by omega, by omega⟩
      · split
        · exact ⟨by omega, by omega⟩
        · exact hd.what
  have h4 : i64ok (max 0 (numR x)) := ⟨by omega, by omega⟩
  cases c <;> unfold setR <;> dsimp only
  · exact { hd with guest := h4 }
  · exact { hd with page := h4 }
  · exact { hd with size := h4 }
  · exact { hd with asid := h4 }
  · exact { hd with way := h4 }
  · exact { hd with set := h4 }
  · exact { hd with a0 := by dsimp only; omega, a1 := by dsimp only; omega }
  · exact { hd with v0 := by dsimp only; omega, v1 := by dsimp only; omega }
  · exact { hd with }
  · exact { hd with }
  · exact { hd with what := h3 }
  · exact { hd with }
theorem setR_kind (d : St) (c : Fd) (x : Bs) : (setR d c x).kind = d.kind := by cases c <;> rfl
theorem setR_fails (d : St) (c : Fd) (x : Bs) : (setR d c x).fails.length ≤ d.fails.length + x.length ∧ (c ≠ .f → (setR d c x).fails = d.fails) := by
  cases c
  case f =>
    refine ⟨?_, fun h => absurd rfl h⟩
    show (d.fails ++ failR x).length ≤ _
    rw [List.length_append]
    unfold failR
    split
    · simp
    · rw [List.length_map]; omega
  all_goals exact ⟨Nat.le_add_right _ _, fun _ => rfl⟩
theorem setAllR_snoc : ∀ (fs : List Fd) (ws : List Bs) (d : St) (i : Nat) (c : Fd) (x : Bs), fs[i]? = some c → ws[i]? = some x → setAllR d (fs.take (i + 1)) (ws.take (i + 1)) = setR (setAllR d (fs.take i) (ws.take i)) c x
  | [], _, _, _, _, _, h, _ => by simp at h
  | _ :: _, [], _, _, _, _, _, h => by simp at h
  | c0 :: fs, x0 :: ws, d, 0, c, x, h1, h2 => by
    simp only [List.getElem?_cons_zero, Option.some.injEq] at h1 h2
    subst h1 h2
    rfl
  | c0 :: fs, x0 :: ws, d, i + 1, c, x, h1, h2 => by
    rw [List.getElem?_cons_succ] at h1 h2
    rw [List.take_succ_cons, List.take_succ_cons, List.take_succ_cons, List.take_succ_cons, setAllR, setAllR]
    exact setAllR_snoc fs ws _ i c x h1 h2
theorem setAllR_ok : ∀ (fs : List Fd) (ws : List Bs) (d : St), d.ok → (setAllR d fs ws).ok ∧ (setAllR d fs ws).kind = d.kind
  | [], _, d, h => by rw [setAllR]; exact ⟨h, rfl⟩; intro _ _ _ _ e; cases e
  | _ :: _, [], d, h => by rw [setAllR]; exact ⟨h, rfl⟩; intro _ _ _ _ _ e; cases e
  | c :: fs, x :: ws, d, h => by
    rw [setAllR]
    have := setAllR_ok fs ws _ (setR_ok h c x)
    exact ⟨this.1, this.2.trans (setR_kind d c x)⟩
end Go.Proofs.YtjofegjiakjjhaaDoor
