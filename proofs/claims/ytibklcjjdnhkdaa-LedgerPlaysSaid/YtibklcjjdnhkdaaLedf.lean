/- What find and moves of package ledger do: contracts. -/
import Derived.Test.YtibklcjjdnhkdaaLed
import Derived.Laws.Tables
import Derived.Laws.Rows
namespace Go.Proofs.Ytibklcjjdnhkdaa
open Go.RowKit Mf

/-- The table of moves, cell by cell. -/
def mvCells : Array Value := #[.int .i64 0, .int .i64 0, .bool false, .bool false,
  .int .i64 0, .int .i64 1, .bool false, .bool false,
  .int .i64 0, .int .i64 2, .bool false, .bool false,
  .int .i64 0, .int .i64 4, .bool false, .bool true,
  .int .i64 2, .int .i64 3, .bool false, .bool true,
  .int .i64 3, .int .i64 2, .bool true, .bool false,
  .int .i64 4, .int .i64 5, .bool true, .bool true,
  .int .i64 5, .int .i64 4, .bool true, .bool true,
  .int .i64 4, .int .i64 6, .bool true, .bool false,
  .int .i64 0, .int .i64 0, .bool false, .bool false,
  .int .i64 6, .int .i64 4, .bool false, .bool true]

theorem mv_size : mvCells.size = 44 := by decide +kernel
theorem mv_one : mvCells.all (·.oneCell') = true := by decide +kernel

theorem mv_built : Try.prog.built 60 [(1, Value.agg #[.int .i64 0, .int .i64 1, .bool false, .bool false]), (2, Value.agg #[.int .i64 0, .int .i64 2, .bool false, .bool false]), (3, Value.agg #[.int .i64 0, .int .i64 4, .bool false, .bool true]), (4, Value.agg #[.int .i64 2, .int .i64 3, .bool false, .bool true]), (5, Value.agg #[.int .i64 3, .int .i64 2, .bool true, .bool false]), (6, Value.agg #[.int .i64 4, .int .i64 5, .bool true, .bool true]), (7, Value.agg #[.int .i64 5, .int .i64 4, .bool true, .bool true]), (8, Value.agg #[.int .i64 4, .int .i64 6, .bool true, .bool false]), (10, Value.agg #[.int .i64 6, .int .i64 4, .bool false, .bool true])] = some mvCells := by kernel_rfl

set_option maxHeartbeats 400000 in
set_option maxRecDepth 100000 in
theorem moves_any (w : World) : Calls Try.prog 24 #[] w fun e w' => e = .returned (.agg mvCells) ∧ Below w.heap.size w w' := by
  have hb := mv_built
  go_enter Try.func24, Try.ntmps24
  go_wp2_with (first
    | (with_reducible refine wpList_build rfl 60 _ rfl ?c1 ?_)
    | (with_reducible refine wpList_store_row rfl 60 _ _ rfl w.heap.size mvCells ?d1 ?d2 60 _ (heap_alloc_new _ _) ?d3 ?d4 mv_one ?_))
  case d3 => kernel_rfl
  case d4 => kernel_rfl
  refine bodyPost_ret (v := .agg mvCells) (results_cell_row (p := 0) (ty := 60) (by kernel_rfl) _ _ w.heap.size 60 mvCells (0, 0) _ rfl (setRow_heap _ _ _ _ _ _ (heap_alloc_new _ _)) Try.underlying60 rfl (by kernel_rfl)) rfl ⟨rfl, ?_⟩
  exact ⟨rfl, rfl, rfl, by simp, fun k hk => by rw [setRow_other _ _ _ _ (by omega)]; exact Below.heap_alloc _ _ _ hk⟩

/-- A move: from, to, whether it must be the party's, whether it is the party's behind it. -/
structure Mv where
  from_ : Int
  to : Int
  of_ : Bool
  for_ : Bool

/-- The table. -/
def mvs (a : Int) : Mv :=
  if a = 1 then ⟨0, 1, false, false⟩ else if a = 2 then ⟨0, 2, false, false⟩ else if a = 3 then ⟨0, 4, false, true⟩ else if a = 4 then ⟨2, 3, false, true⟩ else if a = 5 then ⟨3, 2, true, false⟩
  else if a = 6 then ⟨4, 5, true, true⟩ else if a = 7 then ⟨5, 4, true, true⟩ else if a = 8 then ⟨4, 6, true, false⟩ else if a = 10 then ⟨6, 4, false, true⟩ else ⟨0, 0, false, false⟩

/-- The move of an act, of a frame in a state, and whether there is one. -/
def fnd (a st : Int) : Mv × Bool :=
  if a = 9 then (if st = 1 ∨ st = 2 ∨ st = 6 then (⟨st, 0, false, false⟩, true) else if st = 4 ∨ st = 5 then (⟨st, 0, true, false⟩, true) else (⟨0, 0, false, false⟩, false))
  else (mvs a, (mvs a).from_ == st)

/-- A move in memory. -/
def mvV (m : Mv) : Value := .agg #[.int .i64 m.from_, .int .i64 m.to, .bool m.of_, .bool m.for_]

theorem mv_index1 (w : World) : (Instr.index 60 (.agg mvCells) (.int .i64 1)).run Try.prog w = .ok (.agg #[.int .i64 (mvs 1).from_, .int .i64 (mvs 1).to, .bool (mvs 1).of_, .bool (mvs 1).for_]) w := by kernel_rfl
theorem mv_index2 (w : World) : (Instr.index 60 (.agg mvCells) (.int .i64 2)).run Try.prog w = .ok (.agg #[.int .i64 (mvs 2).from_, .int .i64 (mvs 2).to, .bool (mvs 2).of_, .bool (mvs 2).for_]) w := by kernel_rfl
theorem mv_index3 (w : World) : (Instr.index 60 (.agg mvCells) (.int .i64 3)).run Try.prog w = .ok (.agg #[.int .i64 (mvs 3).from_, .int .i64 (mvs 3).to, .bool (mvs 3).of_, .bool (mvs 3).for_]) w := by kernel_rfl
theorem mv_index4 (w : World) : (Instr.index 60 (.agg mvCells) (.int .i64 4)).run Try.prog w = .ok (.agg #[.int .i64 (mvs 4).from_, .int .i64 (mvs 4).to, .bool (mvs 4).of_, .bool (mvs 4).for_]) w := by kernel_rfl
theorem mv_index5 (w : World) : (Instr.index 60 (.agg mvCells) (.int .i64 5)).run Try.prog w = .ok (.agg #[.int .i64 (mvs 5).from_, .int .i64 (mvs 5).to, .bool (mvs 5).of_, .bool (mvs 5).for_]) w := by kernel_rfl
theorem mv_index6 (w : World) : (Instr.index 60 (.agg mvCells) (.int .i64 6)).run Try.prog w = .ok (.agg #[.int .i64 (mvs 6).from_, .int .i64 (mvs 6).to, .bool (mvs 6).of_, .bool (mvs 6).for_]) w := by kernel_rfl
theorem mv_index7 (w : World) : (Instr.index 60 (.agg mvCells) (.int .i64 7)).run Try.prog w = .ok (.agg #[.int .i64 (mvs 7).from_, .int .i64 (mvs 7).to, .bool (mvs 7).of_, .bool (mvs 7).for_]) w := by kernel_rfl
theorem mv_index8 (w : World) : (Instr.index 60 (.agg mvCells) (.int .i64 8)).run Try.prog w = .ok (.agg #[.int .i64 (mvs 8).from_, .int .i64 (mvs 8).to, .bool (mvs 8).of_, .bool (mvs 8).for_]) w := by kernel_rfl
theorem mv_index9 (w : World) : (Instr.index 60 (.agg mvCells) (.int .i64 9)).run Try.prog w = .ok (.agg #[.int .i64 (mvs 9).from_, .int .i64 (mvs 9).to, .bool (mvs 9).of_, .bool (mvs 9).for_]) w := by kernel_rfl
theorem mv_index10 (w : World) : (Instr.index 60 (.agg mvCells) (.int .i64 10)).run Try.prog w = .ok (.agg #[.int .i64 (mvs 10).from_, .int .i64 (mvs 10).to, .bool (mvs 10).of_, .bool (mvs 10).for_]) w := by kernel_rfl
theorem mv_index (a : Int) (h1 : 1 ≤ a) (h2 : a ≤ 10) (w : World) : (Instr.index 60 (.agg mvCells) (.int .i64 a)).run Try.prog w = .ok (.agg #[.int .i64 (mvs a).from_, .int .i64 (mvs a).to, .bool (mvs a).of_, .bool (mvs a).for_]) w := by
  have h : a = 1 ∨ a = 2 ∨ a = 3 ∨ a = 4 ∨ a = 5 ∨ a = 6 ∨ a = 7 ∨ a = 8 ∨ a = 9 ∨ a = 10 := by omega
  rcases h with rfl | rfl | rfl | rfl | rfl | rfl | rfl | rfl | rfl | rfl
  · exact mv_index1 w
  · exact mv_index2 w
  · exact mv_index3 w
  · exact mv_index4 w
  · exact mv_index5 w
  · exact mv_index6 w
  · exact mv_index7 w
  · exact mv_index8 w
  · exact mv_index9 w
  · exact mv_index10 w

/-- A world that has grown by one block of cells and by calls keeps that block's cells. -/
theorem kept4 {w w1 : World} {cs : Array Value} {T : TypeId} (hb : Below (w.alloc (.cells cs T)).heap.size (w.alloc (.cells cs T)) w1) (j : Nat) : w1.cell? ⟨w.heap.size, j, none⟩ = cs[j]? ∧ w1.frozen? ⟨w.heap.size, j, none⟩ = false ∧ w.heap.size < w1.heap.size := by
  have hB : Blk w1 w.heap.size T cs := (Blk.new w T cs).below hb (by simp)
  exact ⟨hB.cell j, hB.frozen j, hB.lt⟩

theorem find_res {W : World} {b : Nat} {T : TypeId} {x0 x1 x2 x3 : Value} (h : Blk W b T #[x0, x1, x2, x3]) {tmps : Array Value} (h4 : tmps.getD 4 undef = .pointer (some ⟨b, 0, none⟩)) :
    (results Try.f20 tmps).run Try.prog W = .ok (.tuple #[.agg #[x0, x1, x2, x3], tmps.getD 5 undef]) W := by
  have c0 := h.cell 0
  have c1 := h.cell 1
  have c2 := h.cell 2
  have c3 := h.cell 3
  have h4' : tmps[4]?.getD undef = .pointer (some ⟨b, 0, none⟩) := by simpa using h4
  simp at c0 c1 c2 c3
  simp [results, Try.results20, go_sem, h4', c0, c1, c2, c3]

set_option maxHeartbeats 400000 in
theorem find_rel (st : Int) (w : World) :
    Calls Try.prog 20 #[.int .i64 9, .int .i64 st] w fun e w' => e = .returned (.tuple #[mvV (fnd 9 st).1, .bool (fnd 9 st).2]) ∧ Below w.heap.size w w' := by
  have hall : (st = 1 ∨ st = 2 ∨ st = 6) ∨ (st = 4 ∨ st = 5) ∨ ¬ (st = 1 ∨ st = 2 ∨ st = 6 ∨ st = 4 ∨ st = 5) := by omega
  rcases hall with h | h | h
  · have hf := Lib.hid (show fnd 9 st = (⟨st, 0, false, false⟩, true) by unfold fnd; rw [if_pos rfl, if_pos h])
    rcases h with rfl | rfl | rfl
    all_goals
      go_enter Try.func20, Try.ntmps20
      go_wp2
      rw [hf.out]
      exact bodyPost_ret (v := .tuple #[.agg #[.int .i64 _, .int .i64 0, .bool false, .bool false], .bool true]) (by simp [results, Try.results20, go_sem]) rfl ⟨rfl, (Below.refl _ _).alloc (Nat.le_refl _) _⟩
  · have hf := Lib.hid (show fnd 9 st = (⟨st, 0, true, false⟩, true) by unfold fnd; rw [if_pos rfl, if_neg (by omega), if_pos h])
    rcases h with rfl | rfl
    all_goals
      go_enter Try.func20, Try.ntmps20
      go_wp2
      rw [hf.out]
      exact bodyPost_ret (v := .tuple #[.agg #[.int .i64 _, .int .i64 0, .bool true, .bool false], .bool true]) (by simp [results, Try.results20, go_sem]) rfl ⟨rfl, (Below.refl _ _).alloc (Nat.le_refl _) _⟩
  · have hf := Lib.hid (show fnd 9 st = (⟨0, 0, false, false⟩, false) by unfold fnd; rw [if_pos rfl, if_neg (by omega), if_neg (by omega)])
    have c1 : (st == 1) = false := by rw [beq_eq_false_iff_ne]; omega
    have c2 : (st == 2) = false := by rw [beq_eq_false_iff_ne]; omega
    have c3 : (st == 6) = false := by rw [beq_eq_false_iff_ne]; omega
    have c4 : (st == 4) = false := by rw [beq_eq_false_iff_ne]; omega
    have c5 : (st == 5) = false := by rw [beq_eq_false_iff_ne]; omega
    clear h
    go_enter Try.func20, Try.ntmps20
    go_wp2
    rw [hf.out]
    exact bodyPost_ret (v := .tuple #[.agg #[.int .i64 0, .int .i64 0, .bool false, .bool false], .bool false]) (by simp [results, Try.results20, go_sem]) rfl ⟨rfl, (Below.refl _ _).alloc (Nat.le_refl _) _⟩

set_option maxHeartbeats 400000 in
theorem find_any (a st : Int) (w : World) (h1 : 1 ≤ a) (h2 : a ≤ 10) :
    Calls Try.prog 20 #[.int .i64 a, .int .i64 st] w fun e w' => e = .returned (.tuple #[mvV (fnd a st).1, .bool (fnd a st).2]) ∧ Below w.heap.size w w' := by
  by_cases h9 : a = 9
  · subst h9
    exact find_rel st w
  · have hi := mv_index a h1 h2
    have e1 : (a != 9) = true := by rw [bne_iff_ne]; exact h9
    have hf := Lib.hid (show fnd a st = (mvs a, (mvs a).from_ == st) from if_neg h9)
    clear h9 h1 h2
    generalize mvs a = m at *
    go_enter Try.func20, Try.ntmps20
    go_wp2_with fail
    refine (moves_any _).mono ?_; rintro e w1 ⟨rfl, hb1⟩
    obtain ⟨k0, f0, hlt⟩ := kept4 hb1 0
    obtain ⟨k1, f1, _⟩ := kept4 hb1 1
    obtain ⟨k2, f2, _⟩ := kept4 hb1 2
    obtain ⟨k3, f3, _⟩ := kept4 hb1 3
    have HB := Lib.hid hb1
    clear hb1
    simp at k0 k1 k2 k3
    go_wp2
    go_region
    go_wp2
    rw [hf.out]
    have hb1 := HB.out
    have hb0 : Below w.heap.size w w1 := ((Below.refl _ _).alloc (Nat.le_refl _) _).trans (hb1.mono (by simp))
    have s0 := hb0.size
    have hB : Blk w1 w.heap.size 52 #[.int .i64 0, .int .i64 0, .bool false, .bool false] := (Blk.new w _ _).below hb1 (by simp)
    refine bodyPost_ret (find_res (b := w.heap.size) (T := 52) (x0 := .int .i64 m.from_) (x1 := .int .i64 m.to) (x2 := .bool m.of_) (x3 := .bool m.for_) ?c1 rfl) rfl ⟨rfl, ?_⟩
    case c1 =>
      have h := ((((hB.set_ 0 (.int .i64 m.from_)).set_ 1 (.int .i64 m.to)).set_ 2 (.bool m.of_)).set_ 3 (.bool m.for_)).alloc (.cells #[.int .i64 m.from_, .int .i64 m.to, .bool m.of_, .bool m.for_] 52)
      exact h.drew
    exact (((((hb0.setCell (p := ⟨w.heap.size, 0, none⟩) (Nat.le_refl _) _).setCell (p := ⟨w.heap.size, 1, none⟩) (Nat.le_refl _) _).setCell (p := ⟨w.heap.size, 2, none⟩) (Nat.le_refl _) _).setCell (p := ⟨w.heap.size, 3, none⟩) (Nat.le_refl _) _).alloc (by simpa using s0) _).drew

end Go.Proofs.Ytibklcjjdnhkdaa
