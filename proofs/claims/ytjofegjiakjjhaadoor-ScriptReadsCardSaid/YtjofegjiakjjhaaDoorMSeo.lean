import Derived.Test.YtjofegjiakjjhaaDoorMSsf
import Derived.Test.YtjofegjiakjjhaaDoorMSsd
import Derived.Test.YtjofegjiakjjhaaDoorMShape
import Derived.Deep.Slices
import Derived.ProofKit
/- Script: a step, a result, a list of steps that come in, opened. -/
namespace Go.Proofs.YtjofegjiakjjhaaDoor
open Go.ChangeShapes Go.WideShapes Go.ChangeAt Go.RowKit Go.Lib Go.Deep

theorem word_in {z : Int} (h : (Lit.int .u64 z).wf = true) : 0 ≤ z ∧ z < 18446744073709551616 := by
  simp only [Lit.wf, IntKind.min, IntKind.max, Bool.and_eq_true] at h
  have h1 := h.1
  have h2 := h.2
  simp [IntKind.bits, IntKind.signed] at h1 h2
  omega
theorem int_in {z : Int} (h : (Lit.int .i64 z).wf = true) : i64ok z := by
  simp only [Lit.wf, IntKind.min, IntKind.max, Bool.and_eq_true] at h
  have h1 := h.1
  have h2 := h.2
  simp [IntKind.bits, IntKind.signed] at h1 h2
  exact ⟨by omega, by omega⟩
instance : Inhabited (St × Value) := ⟨({}, .bool false)⟩
section
variable {H : Type} {enc : TypeId × Value → H} {W : World}
theorem open_bools1 {fuel : Nat} {cs : List Value} {x : DataW H × List MemPlace} (h : DataW.trod enc Tryd.prog W 0 (fun _ => true) true fuel 23 cs = some x) :
    ∃ (A : Option Addr) (c : Nat) (l : List Bool), cs = [.slice A l.length c] ∧ Reads W W.heap.size 1 A l.length (l.map Value.bool) ∧ l.length ≤ c ∧ c ≤ maxLen := by
  rcases open_slice1 Tryd.underlying23 (by kernel_rfl) h with ⟨rfl, _⟩ | ⟨a, len, cap, m, n, V, D, Pl, rfl, _, hl, hm, hmm, _, hx⟩
  · exact ⟨none, 0, [], rfl, ⟨rfl, fun h => absurd h (by simp)⟩, Nat.le_refl _, by unfold maxLen; omega⟩
  · rw [if_pos rfl] at hmm
    have hv : ∀ i, i < len → ∃ b, W.cell? (a.add i) = some (.bool b) := fun i hi => by
      obtain ⟨h1, h2⟩ := hx i (by omega)
      obtain ⟨b, hb, _⟩ := DataW.trod_bool Tryd.underlying4 h2
      injection hb with hb _
      exact ⟨b, by rw [h1, hb]⟩
    obtain ⟨B, hB⟩ := choose_lt (α := Bool) (p := fun i b => W.cell? (a.add i) = some (.bool b)) hv
    refine ⟨some a, cap, (List.range len).map B, by simp, ⟨by simp, fun h0 => ⟨a, rfl, ?_, fun j u hu => ?_⟩⟩, by simpa using hl, hm⟩
    · have h0' : 0 < len := by simpa using h0
      have := World.block_lt_of_cell? _ _ (hB 0 h0')
      rwa [block_of_add] at this
    · rw [List.getElem?_map, List.getElem?_map] at hu
      by_cases hj : j < len
      · rw [List.getElem?_range hj] at hu
        simp only [Option.map_some, Option.some.injEq] at hu
        rw [← hu]; exact hB j hj
      · rw [List.getElem?_eq_none (by simp; omega)] at hu
        cases hu
theorem open_u64s1 {fuel : Nat} {cs : List Value} {x : DataW H × List MemPlace} (h : DataW.trod enc Tryd.prog W 0 (fun _ => true) true fuel 45 cs = some x) :
    ∃ (A : Option Addr) (c : Nat) (l : List Int), cs = [.slice A l.length c] ∧ Reads W W.heap.size 1 A l.length (l.map (Value.int .u64)) ∧ ∀ x ∈ l, 0 ≤ x ∧ x < 18446744073709551616 := by
  rcases open_slice1 Tryd.underlying45 (by kernel_rfl) h with ⟨rfl, _⟩ | ⟨a, len, cap, m, n, V, D, Pl, rfl, _, hl, hm, hmm, _, hx⟩
  · exact ⟨none, 0, [], rfl, ⟨rfl, fun h => absurd h (by simp)⟩, fun x hx => by cases hx⟩
  · rw [if_pos rfl] at hmm
    have hv : ∀ i, i < len → ∃ z : Int, W.cell? (a.add i) = some (.int .u64 z) ∧ 0 ≤ z ∧ z < 18446744073709551616 := fun i hi => by
      obtain ⟨h1, h2⟩ := hx i (by omega)
      obtain ⟨z, hz, _, hw⟩ := DataW.trod_int Tryd.underlying22 h2
      injection hz with hz _
      have := word_in hw
      exact ⟨z, by rw [h1, hz], this⟩
    obtain ⟨B, hB⟩ := choose_lt (α := Int) (p := fun i z => W.cell? (a.add i) = some (.int .u64 z) ∧ 0 ≤ z ∧ z < 18446744073709551616) hv
    refine ⟨some a, cap, (List.range len).map B, by simp, ⟨by simp, fun h0 => ⟨a, rfl, ?_, fun j u hu => ?_⟩⟩, fun x hx => ?_⟩
    · have h0' : 0 < len := by simpa using h0
      have := World.block_lt_of_cell? _ _ (hB 0 h0').1
      rwa [block_of_add] at this
    · rw [List.getElem?_map, List.getElem?_map] at hu
      by_cases hj : j < len
      · rw [List.getElem?_range hj] at hu
        simp only [Option.map_some, Option.some.injEq] at hu
        rw [← hu]; exact (hB j hj).1
      · rw [List.getElem?_eq_none (by simp; omega)] at hu
        cases hu
    · obtain ⟨i, hi, rfl⟩ := List.mem_map.1 hx
      exact (hB i (List.mem_range.1 hi)).2
theorem len12 {cs : List Value} (h : cs.length = 12) : ∃ a0 a1 a2 a3 a4 a5 a6 a7 a8 a9 a10 a11, cs = [a0, a1, a2, a3, a4, a5, a6, a7, a8, a9, a10, a11] := by
  match cs, h with
  | [a0, a1, a2, a3, a4, a5, a6, a7, a8, a9, a10, a11], _ => exact ⟨a0, a1, a2, a3, a4, a5, a6, a7, a8, a9, a10, a11, rfl⟩
theorem open_step_cells {fuel : Nat} {cs : List Value} {x : DataW H × List MemPlace} (h : DataW.trod enc Tryd.prog W 0 (fun _ => true) true fuel 25 cs = some x) :
    ∃ (s : St) (A : Option Addr) (c : Nat), cs = (stC s (.slice A s.fails.length c)).toList ∧ s.ok ∧ Reads W W.heap.size 1 A s.fails.length (s.fails.map Value.bool) ∧ s.fails.length ≤ c ∧ c ≤ maxLen := by
  obtain ⟨xs, n, _, _, hlen, hxl, hg⟩ := DataW.trod_struct Tryd.underlying25 h
  rw [show Tryd.prog.cellsOf 25 = 12 from by kernel_rfl] at hlen
  obtain ⟨a0, a1, a2, a3, a4, a5, a6, a7, a8, a9, a10, a11, rfl⟩ := len12 hlen
  have c3 : Tryd.prog.cellsOf 3 = 1 := by kernel_rfl
  have c4 : Tryd.prog.cellsOf 4 = 1 := by kernel_rfl
  have c22 : Tryd.prog.cellsOf 22 = 1 := by kernel_rfl
  have c23 : Tryd.prog.cellsOf 23 = 1 := by kernel_rfl
  have hx : ∀ i, i < 12 → ∃ y, xs[i]? = some y := fun i hi => ⟨_, List.getElem?_eq_getElem (by rw [hxl]; exact hi)⟩
  obtain ⟨y0, e0⟩ := hx 0 (by omega)
  obtain ⟨y1, e1⟩ := hx 1 (by omega)
  obtain ⟨y2, e2⟩ := hx 2 (by omega)
  obtain ⟨y3, e3⟩ := hx 3 (by omega)
  obtain ⟨y4, e4⟩ := hx 4 (by omega)
  obtain ⟨y5, e5⟩ := hx 5 (by omega)
  obtain ⟨y6, e6⟩ := hx 6 (by omega)
  obtain ⟨y7, e7⟩ := hx 7 (by omega)
  obtain ⟨y8, e8⟩ := hx 8 (by omega)
  obtain ⟨y9, e9⟩ := hx 9 (by omega)
  obtain ⟨y10, e10⟩ := hx 10 (by omega)
  obtain ⟨y11, e11⟩ := hx 11 (by omega)
  have h0 : DataW.trod enc Tryd.prog W 0 (fun _ => true) true n 3 (([a0, a1, a2, a3, a4, a5, a6, a7, a8, a9, a10, a11].drop 0).take (Tryd.prog.cellsOf 3)) = xs[0]? := hg 0 _ rfl
  have h1 : DataW.trod enc Tryd.prog W 0 (fun _ => true) true n 3 (([a0, a1, a2, a3, a4, a5, a6, a7, a8, a9, a10, a11].drop 1).take (Tryd.prog.cellsOf 3)) = xs[1]? := hg 1 _ rfl
  have h2 : DataW.trod enc Tryd.prog W 0 (fun _ => true) true n 22 (([a0, a1, a2, a3, a4, a5, a6, a7, a8, a9, a10, a11].drop 2).take (Tryd.prog.cellsOf 22)) = xs[2]? := hg 2 _ rfl
  have h3 : DataW.trod enc Tryd.prog W 0 (fun _ => true) true n 3 (([a0, a1, a2, a3, a4, a5, a6, a7, a8, a9, a10, a11].drop 3).take (Tryd.prog.cellsOf 3)) = xs[3]? := hg 3 _ rfl
  have h4 : DataW.trod enc Tryd.prog W 0 (fun _ => true) true n 22 (([a0, a1, a2, a3, a4, a5, a6, a7, a8, a9, a10, a11].drop 4).take (Tryd.prog.cellsOf 22)) = xs[4]? := hg 4 _ rfl
  have h5 : DataW.trod enc Tryd.prog W 0 (fun _ => true) true n 3 (([a0, a1, a2, a3, a4, a5, a6, a7, a8, a9, a10, a11].drop 5).take (Tryd.prog.cellsOf 3)) = xs[5]? := hg 5 _ rfl
  have h6 : DataW.trod enc Tryd.prog W 0 (fun _ => true) true n 4 (([a0, a1, a2, a3, a4, a5, a6, a7, a8, a9, a10, a11].drop 6).take (Tryd.prog.cellsOf 4)) = xs[6]? := hg 6 _ rfl
  have h7 : DataW.trod enc Tryd.prog W 0 (fun _ => true) true n 3 (([a0, a1, a2, a3, a4, a5, a6, a7, a8, a9, a10, a11].drop 7).take (Tryd.prog.cellsOf 3)) = xs[7]? := hg 7 _ rfl
  have h8 : DataW.trod enc Tryd.prog W 0 (fun _ => true) true n 3 (([a0, a1, a2, a3, a4, a5, a6, a7, a8, a9, a10, a11].drop 8).take (Tryd.prog.cellsOf 3)) = xs[8]? := hg 8 _ rfl
  have h9 : DataW.trod enc Tryd.prog W 0 (fun _ => true) true n 3 (([a0, a1, a2, a3, a4, a5, a6, a7, a8, a9, a10, a11].drop 9).take (Tryd.prog.cellsOf 3)) = xs[9]? := hg 9 _ rfl
  have h10 : DataW.trod enc Tryd.prog W 0 (fun _ => true) true n 3 (([a0, a1, a2, a3, a4, a5, a6, a7, a8, a9, a10, a11].drop 10).take (Tryd.prog.cellsOf 3)) = xs[10]? := hg 10 _ rfl
  have h11 : DataW.trod enc Tryd.prog W 0 (fun _ => true) true n 23 (([a0, a1, a2, a3, a4, a5, a6, a7, a8, a9, a10, a11].drop 11).take (Tryd.prog.cellsOf 23)) = xs[11]? := hg 11 _ rfl
  rw [e0] at h0
  rw [e1] at h1
  rw [e2] at h2
  rw [e3] at h3
  rw [e4] at h4
  rw [e5] at h5
  rw [e6] at h6
  rw [e7] at h7
  rw [e8] at h8
  rw [e9] at h9
  rw [e10] at h10
  rw [e11] at h11
  simp only [c3, c4, c22, c23, List.drop_zero, List.drop_succ_cons, List.take_succ_cons, List.take_zero] at h0 h1 h2 h3 h4 h5 h6 h7 h8 h9 h10 h11
  obtain ⟨z0, q0, _, w0⟩ := DataW.trod_int Tryd.underlying3 h0
  obtain ⟨z1, q1, _, w1⟩ := DataW.trod_int Tryd.underlying3 h1
  obtain ⟨z2, q2, _, w2⟩ := DataW.trod_int Tryd.underlying22 h2
  obtain ⟨z3, q3, _, w3⟩ := DataW.trod_int Tryd.underlying3 h3
  obtain ⟨z4, q4, _, w4⟩ := DataW.trod_int Tryd.underlying22 h4
  obtain ⟨z5, q5, _, w5⟩ := DataW.trod_int Tryd.underlying3 h5
  obtain ⟨z6, q6, _⟩ := DataW.trod_bool Tryd.underlying4 h6
  obtain ⟨z7, q7, _, w7⟩ := DataW.trod_int Tryd.underlying3 h7
  obtain ⟨z8, q8, _, w8⟩ := DataW.trod_int Tryd.underlying3 h8
  obtain ⟨z9, q9, _, w9⟩ := DataW.trod_int Tryd.underlying3 h9
  obtain ⟨z10, q10, _, w10⟩ := DataW.trod_int Tryd.underlying3 h10
  obtain ⟨A, c, l, q11, hr, hlc, hcm⟩ := open_bools1 h11
  injection q0 with q0 _
  injection q1 with q1 _
  injection q2 with q2 _
  injection q3 with q3 _
  injection q4 with q4 _
  injection q5 with q5 _
  injection q6 with q6 _
  injection q7 with q7 _
  injection q8 with q8 _
  injection q9 with q9 _
  injection q10 with q10 _
  injection q11 with q11 _
  subst q0 q1 q2 q3 q4 q5 q6 q7 q8 q9 q10 q11
  have k2 := word_in w2
  have k4 := word_in w4
  exact ⟨{ kind := z0, guest := z1, addr := z2, size := z3, value := z4, page := z5, on := z6, asid := z7, what := z8, set := z9, way := z10, fails := l }, A, c, rfl,
    { a0 := k2.1, a1 := k2.2, v0 := k4.1, v1 := k4.2, kind := int_in w0, guest := int_in w1, size := int_in w3, page := int_in w5, asid := int_in w7, what := int_in w8, set := int_in w9, way := int_in w10 }, hr, hlc, hcm⟩
set_option maxRecDepth 100000 in
/-- A step that comes in. -/
theorem open_step {r : Reach} {b0 : Nat} {v : Value} {d : DataW H} {ps : List MemPlace} (hv : Value.okWide Tryd.prog W r b0 25 v) (h : DataW.Trod enc Tryd.prog W 0 (fun _ => true) true 25 v d ps) :
    ∃ (s : St) (A : Option Addr) (c : Nat), v = .agg (stC s (.slice A s.fails.length c)) ∧ s.ok ∧ Reads W W.heap.size 1 A s.fails.length (s.fails.map Value.bool) ∧ s.fails.length ≤ c ∧ c ≤ maxLen := by
  obtain ⟨cs, rfl, _⟩ := okWide_struct Tryd.underlying25 hv
  obtain ⟨fuel, hd⟩ := h
  obtain ⟨s, A, c, e, h2⟩ := open_step_cells (show DataW.trod enc Tryd.prog W 0 (fun _ => true) true fuel 25 cs.toList = some (d, ps) from by simpa [Value.cells] using hd)
  obtain rfl := Array.toList_inj.1 e
  exact ⟨s, A, c, rfl, h2⟩
theorem len8 {cs : List Value} (h : cs.length = 8) : ∃ a0 a1 a2 a3 a4 a5 a6 a7, cs = [a0, a1, a2, a3, a4, a5, a6, a7] := by
  match cs, h with
  | [a0, a1, a2, a3, a4, a5, a6, a7], _ => exact ⟨a0, a1, a2, a3, a4, a5, a6, a7, rfl⟩
theorem open_fault_cells {fuel : Nat} {b0 b1 b2 b3 b4 : Value} {x : DataW H × List MemPlace} (h : DataW.trod enc Tryd.prog W 0 (fun _ => true) true fuel 44 [b0, b1, b2, b3, b4] = some x) :
    ∃ (z0 z1 z2 z3 : Int) (z4 : Bool), b0 = .int .i64 z0 ∧ b1 = .int .i64 z1 ∧ b2 = .int .i64 z2 ∧ b3 = .int .u64 z3 ∧ b4 = .bool z4 ∧ i64ok z0 ∧ i64ok z1 ∧ i64ok z2 ∧ 0 ≤ z3 ∧ z3 < 18446744073709551616 := by
  obtain ⟨xs, n, _, _, _, hxl, hg⟩ := DataW.trod_struct Tryd.underlying44 h
  have c3 : Tryd.prog.cellsOf 3 = 1 := by kernel_rfl
  have c4 : Tryd.prog.cellsOf 4 = 1 := by kernel_rfl
  have c22 : Tryd.prog.cellsOf 22 = 1 := by kernel_rfl
  have hx : ∀ i, i < 5 → ∃ y, xs[i]? = some y := fun i hi => ⟨_, List.getElem?_eq_getElem (by rw [hxl]; exact hi)⟩
  obtain ⟨y0, e0⟩ := hx 0 (by omega)
  obtain ⟨y1, e1⟩ := hx 1 (by omega)
  obtain ⟨y2, e2⟩ := hx 2 (by omega)
  obtain ⟨y3, e3⟩ := hx 3 (by omega)
  obtain ⟨y4, e4⟩ := hx 4 (by omega)
  have h0 : DataW.trod enc Tryd.prog W 0 (fun _ => true) true n 3 (([b0, b1, b2, b3, b4].drop 0).take (Tryd.prog.cellsOf 3)) = xs[0]? := hg 0 _ rfl
  have h1 : DataW.trod enc Tryd.prog W 0 (fun _ => true) true n 3 (([b0, b1, b2, b3, b4].drop 1).take (Tryd.prog.cellsOf 3)) = xs[1]? := hg 1 _ rfl
  have h2 : DataW.trod enc Tryd.prog W 0 (fun _ => true) true n 3 (([b0, b1, b2, b3, b4].drop 2).take (Tryd.prog.cellsOf 3)) = xs[2]? := hg 2 _ rfl
  have h3 : DataW.trod enc Tryd.prog W 0 (fun _ => true) true n 22 (([b0, b1, b2, b3, b4].drop 3).take (Tryd.prog.cellsOf 22)) = xs[3]? := hg 3 _ rfl
  have h4 : DataW.trod enc Tryd.prog W 0 (fun _ => true) true n 4 (([b0, b1, b2, b3, b4].drop 4).take (Tryd.prog.cellsOf 4)) = xs[4]? := hg 4 _ rfl
  rw [e0] at h0
  rw [e1] at h1
  rw [e2] at h2
  rw [e3] at h3
  rw [e4] at h4
  simp only [c3, c4, c22, List.drop_zero, List.drop_succ_cons, List.take_succ_cons, List.take_zero] at h0 h1 h2 h3 h4
  obtain ⟨z0, q0, _, w0⟩ := DataW.trod_int Tryd.underlying3 h0
  obtain ⟨z1, q1, _, w1⟩ := DataW.trod_int Tryd.underlying3 h1
  obtain ⟨z2, q2, _, w2⟩ := DataW.trod_int Tryd.underlying3 h2
  obtain ⟨z3, q3, _, w3⟩ := DataW.trod_int Tryd.underlying22 h3
  obtain ⟨z4, q4, _⟩ := DataW.trod_bool Tryd.underlying4 h4
  injection q0 with q0 _
  injection q1 with q1 _
  injection q2 with q2 _
  injection q3 with q3 _
  injection q4 with q4 _
  exact ⟨z0, z1, z2, z3, z4, q0, q1, q2, q3, q4, int_in w0, int_in w1, int_in w2, (word_in w3).1, (word_in w3).2⟩
set_option maxRecDepth 100000 in
/-- A result that comes in. -/
theorem open_result {r : Reach} {b0 : Nat} {v : Value} {d : DataW H} {ps : List MemPlace} (hv : Value.okWide Tryd.prog W r b0 47 v) (h : DataW.Trod enc Tryd.prog W 0 (fun _ => true) true 47 v d ps) :
    ∃ (s : Rs) (A : Option Addr) (c : Nat), v = .agg (rsC s (.slice A s.pages.length c)) ∧ s.ok ∧ Reads W W.heap.size 1 A s.pages.length (s.pages.map (Value.int .u64)) := by
  obtain ⟨cs, rfl, _⟩ := okWide_struct Tryd.underlying47 hv
  obtain ⟨fuel, hd⟩ := h
  have hd' : DataW.trod enc Tryd.prog W 0 (fun _ => true) true fuel 47 cs.toList = some (d, ps) := by simpa [Value.cells] using hd
  obtain ⟨xs, n, _, _, hlen, hxl, hg⟩ := DataW.trod_struct Tryd.underlying47 hd'
  rw [show Tryd.prog.cellsOf 47 = 8 from by kernel_rfl] at hlen
  obtain ⟨a0, a1, a2, a3, a4, a5, a6, a7, hcs⟩ := len8 hlen
  rw [hcs] at hg
  have c29 : Tryd.prog.cellsOf 29 = 1 := by kernel_rfl
  have c22 : Tryd.prog.cellsOf 22 = 1 := by kernel_rfl
  have c44 : Tryd.prog.cellsOf 44 = 5 := by kernel_rfl
  have c45 : Tryd.prog.cellsOf 45 = 1 := by kernel_rfl
  have hx : ∀ i, i < 4 → ∃ y, xs[i]? = some y := fun i hi => ⟨_, List.getElem?_eq_getElem (by rw [hxl]; exact hi)⟩
  obtain ⟨y0, e0⟩ := hx 0 (by omega)
  obtain ⟨y1, e1⟩ := hx 1 (by omega)
  obtain ⟨y2, e2⟩ := hx 2 (by omega)
  obtain ⟨y3, e3⟩ := hx 3 (by omega)
  have h0 : DataW.trod enc Tryd.prog W 0 (fun _ => true) true n 29 (([a0, a1, a2, a3, a4, a5, a6, a7].drop 0).take (Tryd.prog.cellsOf 29)) = xs[0]? := hg 0 _ rfl
  have h1 : DataW.trod enc Tryd.prog W 0 (fun _ => true) true n 22 (([a0, a1, a2, a3, a4, a5, a6, a7].drop 1).take (Tryd.prog.cellsOf 22)) = xs[1]? := hg 1 _ rfl
  have h2 : DataW.trod enc Tryd.prog W 0 (fun _ => true) true n 44 (([a0, a1, a2, a3, a4, a5, a6, a7].drop 2).take (Tryd.prog.cellsOf 44)) = xs[2]? := hg 2 _ rfl
  have h3 : DataW.trod enc Tryd.prog W 0 (fun _ => true) true n 45 (([a0, a1, a2, a3, a4, a5, a6, a7].drop 7).take (Tryd.prog.cellsOf 45)) = xs[3]? := hg 3 _ rfl
  rw [e0] at h0
  rw [e1] at h1
  rw [e2] at h2
  rw [e3] at h3
  simp only [c29, c22, c44, c45, List.drop_zero, List.drop_succ_cons, List.take_succ_cons, List.take_zero] at h0 h1 h2 h3
  obtain ⟨z0, q0, _, w0⟩ := DataW.trod_int Tryd.underlying29 h0
  obtain ⟨z1, q1, _, w1⟩ := DataW.trod_int Tryd.underlying22 h1
  obtain ⟨f0, f1, f2, f3, f4, q2, q3, q4, q5, q6, w2, w3, w4, w5, w6⟩ := open_fault_cells h2
  obtain ⟨A, c, l, q7, hr, hl⟩ := open_u64s1 h3
  injection q0 with q0 _
  injection q1 with q1 _
  injection q7 with q7 _
  subst q0 q1 q2 q3 q4 q5 q6 q7
  refine ⟨{ code := z0, value := z1, stage := f0, fkind := f1, level := f2, faddr := f3, store := f4, pages := l }, A, c, ?_, { code := int_in w0, v0 := (word_in w1).1, v1 := (word_in w1).2, stage := w2, fkind := w3, level := w4, a0 := w5, a1 := w6, pg := hl }, hr⟩
  rw [show cs = (rsC { code := z0, value := z1, stage := f0, fkind := f1, level := f2, faddr := f3, store := f4, pages := l } (.slice A l.length c)) from Array.toList_inj.1 hcs]
set_option maxRecDepth 100000 in
/-- Steps that come in. -/
theorem open_steps {r : Reach} {b0 : Nat} {v : Value} {d : DataW H} {ps : List MemPlace} (hv : Value.okWide Tryd.prog W r b0 28 v) (h : DataW.Trod enc Tryd.prog W 0 (fun _ => true) true 28 v d ps) :
    ∃ (A : Option Addr) (c : Nat) (l : List (St × Value)), v = .slice A l.length c ∧ StsR W W.heap.size A l ∧ l.length ≤ c ∧ c ≤ maxLen ∧ ∀ p ∈ l, p.1.ok ∧ ∃ FA Fc, p.2 = .slice FA p.1.fails.length Fc ∧ p.1.fails.length ≤ Fc ∧ Fc ≤ maxLen := by
  obtain ⟨A, n, c, rfl⟩ := okWide_slice Tryd.underlying28 hv
  obtain ⟨fuel, hd⟩ := h
  have hd' : DataW.trod enc Tryd.prog W 0 (fun _ => true) true fuel 28 [.slice A n c] = some (d, ps) := by simpa [Value.cells] using hd
  rcases open_slice Tryd.underlying28 hd' with ⟨h1, _⟩ | ⟨a, len, cap, m, n', D, Pl, h1, _, hl, hm, hmm, _, hi⟩
  · simp at h1
    obtain ⟨rfl, rfl, rfl⟩ := h1
    exact ⟨none, 0, [], rfl, ⟨⟨rfl, fun h => absurd h (by simp)⟩, fun p hp => by cases hp⟩, Nat.le_refl _, by unfold maxLen; omega, fun p hp => by cases hp⟩
  · simp at h1
    obtain ⟨rfl, rfl, rfl⟩ := h1
    rw [if_pos rfl] at hmm
    have c25 : Tryd.prog.cellsOf 25 = 12 := by kernel_rfl
    rw [c25] at hi
    have hv : ∀ i, i < n → ∃ p : St × Value, (∀ j v, (stC p.1 p.2)[j]? = some v → W.cell? ((a.add (i * 12)).add j) = some v) ∧ p.1.ok ∧ ∃ FA Fc, p.2 = .slice FA p.1.fails.length Fc ∧ p.1.fails.length ≤ Fc ∧ Fc ≤ maxLen ∧ Reads W W.heap.size 1 FA p.1.fails.length (p.1.fails.map Value.bool) := fun i hin => by
      obtain ⟨cs', hc, ht⟩ := hi i (by omega)
      obtain ⟨_, hcl, hat⟩ := World.cells?_some hc
      obtain ⟨s, FA, Fc, rfl, hok, hr, h1, h2⟩ := open_step_cells ht
      refine ⟨(s, .slice FA s.fails.length Fc), fun j v hv => ?_, hok, FA, Fc, rfl, h1, h2, hr⟩
      have hj : j < 12 := (Array.getElem?_eq_some_iff.1 hv).1
      rw [hat j hj, Array.getElem?_toList]
      exact hv
    obtain ⟨B, hB⟩ := choose_lt (α := St × Value) (p := fun i p => (∀ j v, (stC p.1 p.2)[j]? = some v → W.cell? ((a.add (i * 12)).add j) = some v) ∧ p.1.ok ∧ ∃ FA Fc, p.2 = .slice FA p.1.fails.length Fc ∧ p.1.fails.length ≤ Fc ∧ Fc ≤ maxLen ∧ Reads W W.heap.size 1 FA p.1.fails.length (p.1.fails.map Value.bool)) hv
    have hll : ((List.range n).map B).length = n := by simp
    have hat : ∀ i, i < n → ((List.range n).map B)[i]? = some (B i) := fun i hin => by rw [List.getElem?_map, List.getElem?_range hin]; rfl
    refine ⟨some a, c, (List.range n).map B, by rw [hll], ⟨⟨by rw [hll, flat_len stL_len, hll], fun h0 => ⟨a, rfl, ?_, fun q u hu => ?_⟩⟩, fun p hp => ?_⟩, by rw [hll]; exact hl, hm, fun p hp => ?_⟩
    · rw [hll] at h0
      have h9 := (hB 0 h0).1 0 _ rfl
      have := World.block_lt_of_cell? _ _ h9
      rwa [block_of_add, block_of_add] at this
    · have hq : q < n * 12 := by
        have := (List.getElem?_eq_some_iff.1 hu).1
        rwa [flat_len stL_len, hll] at this
      have hdm : q / 12 * 12 + q % 12 = q := by omega
      have hq12 : q / 12 < n := by omega
      have h9 := flat_get stL_len ((List.range n).map B) (q / 12) (q % 12) (B (q / 12)) (hat _ hq12) (Nat.mod_lt _ (by omega))
      rw [hdm, hu] at h9
      unfold stL at h9
      rw [Array.getElem?_toList] at h9
      have := (hB _ hq12).1 (q % 12) u h9.symm
      rw [add_of_add, hdm] at this
      exact this
    · obtain ⟨i, hin, rfl⟩ := List.mem_map.1 hp
      obtain ⟨_, _, FA, Fc, e, _, _, hr⟩ := hB i (List.mem_range.1 hin)
      exact ⟨FA, Fc, e, hr⟩
    · obtain ⟨i, hin, rfl⟩ := List.mem_map.1 hp
      obtain ⟨_, hok, FA, Fc, e, h1, h2, _⟩ := hB i (List.mem_range.1 hin)
      exact ⟨hok, FA, Fc, e, h1, h2⟩
end
end Go.Proofs.YtjofegjiakjjhaaDoor
