/- slices.SortFunc at elements of k cells, over a slice that the call has built (the kit's shelf): general laws. -/
import Derived.Test.YtdnfjpelhiniaaaFlat
import Derived.Test.YtdnfjpelhiniaaaMem
import Derived.Shelf.SlSortCmp.WholeK
import Derived.Shelf.SlSortCmp.NoneTotal
import Derived.Shelf.Lay
import Derived.Ground.SlsfProg
namespace Go.Proofs.Ytdnfjpelhiniaaa
open Go Go.Sort Go.Proofs Go.RowKit

section
variable {α : Type} [Inhabited α] {enc : α → List Value} {k : Nat}
theorem flatK_eq (hk0 : 0 < k) (hk : ∀ x, (enc x).length = k) (ss : List α) : (flatK enc k ss.toArray).toList = ss.flatMap enc := by
  apply List.ext_getElem?
  intro t
  by_cases ht : t < ss.length * k
  · have hq : t % k < k := Nat.mod_lt _ hk0
    have hi : t / k < ss.length := by rw [Nat.div_lt_iff_lt_mul hk0]; exact ht
    have e1 : t = t / k * k + t % k := by have := Nat.div_add_mod t k; rw [Nat.mul_comm] at this; omega
    have h2 := flat_get hk ss (t / k) (t % k) ss[t / k] (List.getElem?_eq_getElem hi) hq
    rw [← e1] at h2
    rw [h2]
    have h3 : t < (flatK enc k ss.toArray).size := by simp; exact ht
    rw [Array.getElem?_toList, Array.getElem?_eq_getElem h3, ← getElem!_pos _ t h3, get_flatK _ _ _ _ (by simpa using ht), List.getElem?_eq_getElem (by rw [hk]; exact hq)]
    have e2 : (ss.toArray)[t / k]! = ss[t / k] := by simp [hi]
    rw [e2, getElem!_pos _ _ (by rw [hk]; exact hq)]
  · rw [List.getElem?_eq_none (by simp; omega), List.getElem?_eq_none (by rw [flat_len hk]; omega)]

theorem holdsK_of_block (hk0 : 0 < k) (hk : ∀ x, (enc x).length = k) {w : World} {g : Nat} {cur : Array Value} {e : TypeId} {ss : List α} (hb : w.heap[g]? = some (.cells cur e (0, 0))) (ht : cur.toList.take (ss.length * k) = ss.flatMap enc) : HoldsK enc k w g 0 ss.toArray := by
  intro j hj
  have hj' : j < ss.length * k := by simpa using hj
  refine ⟨?_, by simp [World.frozen?, hb]⟩
  have h1 : (cur.toList.take (ss.length * k))[j]? = (ss.flatMap enc)[j]? := by rw [ht]
  rw [List.getElem?_take_of_lt hj', ← flatK_eq hk0 hk] at h1
  simp only [World.cell?, hb, Nat.zero_add]
  simp only [Option.isSome_none, Bool.false_eq_true, if_false]
  rw [← Array.getElem?_toList, h1, Array.getElem?_toList, Array.getElem?_eq_getElem hj, getElem!_pos _ j hj]
  rfl

theorem heap_sortedK {w : World} {g n : Nat} {os : Array Obj} {cur : Array Value} {e : TypeId} {fr : Nat × Nat} (d : Array Value) (hb : w.heap[g]? = some (.cells cur e fr)) :
    (grow (putRow id (Sort.ahead w n) g 0 d) os).heap[g]? = some (.cells (putCells id 0 d cur) e fr) := by
  have hg : g < w.heap.size := (Array.getElem?_eq_some_iff.1 hb).1
  rw [heap_grow_old _ _ (by simpa using hg)]
  simp [putRow, mapBlock, Sort.ahead, Array.getElem?_modify, hb, onCells]

theorem grownBy_sortedK {w : World} {g n : Nat} {os : Array Obj} (d : Array Value) : w.grownBy (grow (putRow id (Sort.ahead w n) g 0 d) os) (some g) := by
  refine ⟨rfl, rfl, rfl, by simp, fun k hk hne => ?_⟩
  rw [heap_grow_old _ _ (by simpa using hk)]
  have : g ≠ k := fun e => hne (by rw [e])
  simp [putRow, mapBlock, Sort.ahead, Array.getElem?_modify, this]

theorem take_putCellsK (cur : Array Value) (ts : Array Value) (h : ts.size ≤ cur.size) : (putCells id 0 ts cur).toList.take ts.size = ts.toList := by
  apply List.ext_getElem?
  intro j
  by_cases hj : j < ts.size
  · rw [List.getElem?_take_of_lt hj, Array.getElem?_toList]
    simp [putCells, hj, show j < cur.size by omega]
  · rw [List.getElem?_take_eq_none (by omega), List.getElem?_eq_none (by simp; omega)]

theorem ownsRow_sortedK (hk0 : 0 < k) (hk : ∀ x, (enc x).length = k) {w : World} {base g cap n : Nat} {e : TypeId} {os : Array Obj} {cur : Array Value} {ss ts : List α} (hl : ts.length = ss.length) (hbase : base ≤ g) (hb : w.heap[g]? = some (.cells cur e (0, 0)))
    (h1 : ss.length ≤ cap) (h2 : cap ≤ maxLen) (h3 : cur.size = cap * k) :
    (sortWorldK enc k w g 0 n ts.toArray os).ownsRow base e k (.slice (some ⟨g, 0, none⟩) ss.length cap) ss.length (ts.flatMap enc) := by
  have h5 : ss.length * k ≤ cap * k := Nat.mul_le_mul_right _ h1
  refine ⟨by rw [flat_len hk, hl], .inr ⟨g, cap, _, rfl, hbase, heap_sortedK _ hb, h1, h2, by simp [putCells, h3], ?_⟩⟩
  have h4 := take_putCellsK cur (flatK enc k ts.toArray) (by simp; rw [hl, h3]; exact h5)
  rw [flatK_eq hk0 hk] at h4
  rw [← h4]
  congr 1
  simp [hl]
end
end Go.Proofs.Ytdnfjpelhiniaaa
