/- A row of whole numbers that the call owns, between a and b. -/
import Derived.Test.YtghniddefhdmmaaBuilt
import Derived.Test.YtghniddefhdmmaaSrt
import Derived.WalkKit
import Derived.BigGuard
import Derived.BigCall
import Derived.CellFam
import Derived.Deep.QuietTactic
import Derived.Deep.Draws
import Derived.BigQuiet
namespace Go.Proofs.Ytghniddefhdmmaa
open Go.RowKit

/-- The row holds d, which came of d0 by turns in w's own block g between a and b. -/
structure RowI (w : World) (base g n cap : Nat) (d0 : List Int) (a b : Nat) (d : List Int) (wr : World) : Prop where
  own : wr.ownsRow base 3 1 (.slice (some ⟨g, 0, none⟩) n cap) n (d.map (Value.int .i64))
  seg : Seg d0 d a b
  grown : w.grownBy wr (some g)

section
variable {w wr : World} {base g n cap a b : Nat} {d0 d : List Int}
theorem RowI.len (h : RowI w base g n cap d0 a b d wr) : d.length = n := by have := h.own.1; simpa using this
theorem RowI.len0 (h : RowI w base g n cap d0 a b d wr) : d0.length = n := by rw [← h.len, h.seg.len]
theorem RowI.start (h : w.ownsRow base 3 1 (.slice (some ⟨g, 0, none⟩) n cap) n (d.map (Value.int .i64))) (a b : Nat) : RowI w base g n cap d a b d w := ⟨h, Seg.refl _ _ _, World.grownBy.refl _ _⟩
theorem RowI.cell (h : RowI w base g n cap d0 a b d wr) (t : Nat) (ht : t < n) : wr.cell? ⟨g, t, none⟩ = some (.int .i64 (ele d t)) := by
  rw [h.own.cellAt t (by omega), List.getElem?_map, ele_some (by rw [h.len]; exact ht)]; rfl
theorem RowI.frozen (h : RowI w base g n cap d0 a b d wr) (t : Nat) : wr.frozen? ⟨g, t, none⟩ = false := h.own.frozenAt t
theorem RowI.drewN (h : RowI w base g n cap d0 a b d wr) (q : Nat) : RowI w base g n cap d0 a b d (wr.drewN q) := ⟨h.own, h.seg, only_drewN h.grown q⟩
theorem RowI.swap (h : RowI w base g n cap d0 a b d wr) {i j : Nat} (hi : a ≤ i ∧ i < b) (hj : a ≤ j ∧ j < b) (hb : b ≤ n) :
    RowI w base g n cap d0 a b (swp d i j) ((wr.setCell ⟨g, i, none⟩ (.int .i64 (ele d j))).setCell ⟨g, j, none⟩ (.int .i64 (ele d i))) := by
  refine ⟨?_, h.seg.swp hi hj (by rw [h.len0]; exact hb), only_setCell (only_setCell h.grown (.inl rfl) _) (.inl rfl) _⟩
  have h2 := ((h.own.stored i (.int .i64 (ele d j))).1.stored j (.int .i64 (ele d i))).1
  unfold swp
  rw [List.map_set, List.map_set]
  exact h2
end

theorem grownBy_tr {w w' w'' : World} {r : Option Nat} (h : w.grownBy w' r) (k : w'.grownBy w'' r) : w.grownBy w'' r :=
  ⟨k.os.trans h.os, k.tape.trans h.tape, k.output.trans h.output, Nat.le_trans h.size k.size, fun b hb hne => (k.block b (Nat.lt_of_lt_of_le hb h.size) hne).trans (h.block b hb hne)⟩

theorem RowI.trans {w wr w' : World} {base g n cap a b a' b' : Nat} {d0 d d' : List Int} (h : RowI w base g n cap d0 a b d wr) (k : RowI wr base g n cap d a' b' d' w') (ha : a ≤ a') (hb : b' ≤ b) : RowI w base g n cap d0 a b d' w' :=
  ⟨k.own, h.seg.trans (k.seg.mono ha hb), grownBy_tr h.grown k.grown⟩

theorem RowI.below {w wr w' : World} {base g n cap a b : Nat} {d0 d : List Int} (h : RowI w base g n cap d0 a b d wr) (hb : Below wr.heap.size wr w') : RowI w base g n cap d0 a b d w' :=
  ⟨own_below h.own hb, h.seg, grownBy_tr h.grown (only_of_below hb _)⟩
theorem RowI.drew {w wr : World} {base g n cap a b : Nat} {d0 d : List Int} (h : RowI w base g n cap d0 a b d wr) : RowI w base g n cap d0 a b d wr.drew := h.drewN 1

/-- The count that a slot holds. -/
def cnt : Value → Nat | .int _ q => q.toNat | _ => 0
abbrev RowX (w : World) (base g n cap : Nat) (d : List Int) : Prop := w.ownsRow base 3 1 (.slice (some ⟨g, 0, none⟩) n cap) n (d.map (Value.int .i64))

/-- Exchanges and keys. -/
theorem ele_map {d : List Int} {K : Int → Int} {k : Nat} (h : k < d.length) : ele (d.map K) k = K (ele d k) := by
  unfold ele
  rw [List.getD_eq_getElem?_getD, List.getD_eq_getElem?_getD, List.getElem?_map, List.getElem?_eq_getElem h]; rfl
theorem swp_map {d : List Int} {K : Int → Int} {i j : Nat} (hi : i < d.length) (hj : j < d.length) : (swp d i j).map K = swp (d.map K) i j := by
  unfold swp
  rw [List.map_set, List.map_set, ele_map hi, ele_map hj]
end Go.Proofs.Ytghniddefhdmmaa
