/- A slice of whole numbers that comes in, opened: it reads as a list of numbers of its kind. -/
import Derived.Test.YtkpngkdkkcadfaaMem
import Derived.ChangeSlices
import Derived.Deep.Slices
namespace Go.Proofs.Ytkpngkdkkcadfaa
open Go.RowKit Go.WideShapes Go.ChangeShapes
section
variable {H : Type} {enc : TypeId × Value → H} {P : Program}
theorem open_row_ints {t e : TypeId} {k : IntKind} {W : World} {b0 : Nat} {v : Value} {d : DataW H} {ps : List MemPlace} (ht : P.underlying t = some (.slice e)) (he : P.underlying e = some (.int k)) (hc : P.cellsOf e = 1)
    (hv : Value.okWide P W .any b0 t v) (h : DataW.Trod enc P W 0 (fun _ => true) true t v d ps) :
    ∃ (A : Option Addr) (n c : Nat) (xs : List Value), v = .slice A n c ∧ Reads W W.heap.size 1 A n xs ∧ (∀ u ∈ xs, ∃ i, u = .int k i ∧ (Lit.int k i).wf = true) ∧ n ≤ c ∧ c ≤ maxLen := by
  obtain ⟨A, n, c, rfl⟩ := okWide_slice ht hv
  obtain ⟨fuel, hd⟩ := h
  have hd' : DataW.trod enc P W 0 (fun _ => true) true fuel t [.slice A n c] = some (d, ps) := by simpa [Value.cells] using hd
  rcases open_ints ht he hc hd' with ⟨h1, _⟩ | ⟨a, len, cap, zs, h1, _, hl, hm, hlen, _, hcell, hwf⟩
  · simp at h1
    obtain ⟨rfl, rfl, rfl⟩ := h1
    exact ⟨none, 0, 0, [], rfl, Reads.none_, by simp, Nat.le_refl _, by unfold maxLen; omega⟩
  · simp at h1
    obtain ⟨rfl, rfl, rfl⟩ := h1
    rw [if_pos rfl] at hlen
    refine ⟨some a, n, c, (zs.take n).map (.int k), rfl, ⟨by rw [List.length_map, List.length_take]; omega, fun hn => ⟨a, rfl, ?_, ?_⟩⟩, ?_, hl, hm⟩
    · have h0 := hcell 0 (by omega)
      have := World.block_lt_of_cell? _ _ h0
      rwa [block_of_add] at this
    · intro j u hu
      have hj : j < n := by
        have := (List.getElem?_eq_some_iff.1 hu).1
        rw [List.length_map, List.length_take] at this; omega
      rw [List.getElem?_map, List.getElem?_take, if_pos hj] at hu
      have hz : zs[j]? = some (zs.getD j 0) := by
        rw [List.getD_eq_getElem?_getD, List.getElem?_eq_getElem (by omega)]; rfl
      rw [hz] at hu
      simp at hu
      rw [← hu]
      exact hcell j (by omega)
    · intro u hu
      rw [List.mem_map] at hu
      obtain ⟨z, hz, rfl⟩ := hu
      exact ⟨z, rfl, hwf z (List.mem_of_mem_take hz)⟩
end
end Go.Proofs.Ytkpngkdkkcadfaa
