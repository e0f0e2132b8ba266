/- Cells of structs of small values, as a list: the cell of a field of an element. -/
import Derived.Test.YtephgikeofkblaaShape
namespace Go.Proofs.Ytephgikeofkblaa
open Go.RowKit

/-- Cells, each of its kind, the kinds coming round. -/
def CellsR (ks : List CK) (xs : List Value) : Prop := ∀ j u k, xs[j]? = some u → ks[j % ks.length]? = some k → CellOk k u

theorem CellsR.int {ks : List CK} {xs : List Value} (h : CellsR ks xs) {j : Nat} {k : IntKind} (hj : j < xs.length) (hk : ks[j % ks.length]? = some (.i k)) : ∃ z, xs[j]? = some (.int k z) ∧ (Lit.int k z).wf = true := by
  obtain ⟨z, hz, hw⟩ := h j _ _ (List.getElem?_eq_getElem hj) hk
  exact ⟨z, by rw [List.getElem?_eq_getElem hj, hz], hw⟩

theorem CellsR.bool {ks : List CK} {xs : List Value} (h : CellsR ks xs) {j : Nat} (hj : j < xs.length) (hk : ks[j % ks.length]? = some .b) : ∃ z, xs[j]? = some (.bool z) := by
  obtain ⟨z, hz⟩ := h j _ _ (List.getElem?_eq_getElem hj) hk
  exact ⟨z, by rw [List.getElem?_eq_getElem hj, hz]⟩

/-- The kind of field q of element i. -/
theorem kind_at {ks : List CK} {i q : Nat} {c : CK} (hq : q < ks.length) (h : ks[q]? = some c) : ks[(i * ks.length + q) % ks.length]? = some c := by
  rw [Nat.mul_comm, Nat.mul_add_mod, Nat.mod_eq_of_lt hq, h]

/-- All cells ints. -/
theorem CellsR.ints {ks : List CK} {xs : List Value} (h : CellsR ks xs) (hp : 0 < ks.length) (hk : ∀ c ∈ ks, c = .i .i64) : ∀ u ∈ xs, ∃ i, u = .int .i64 i ∧ (Lit.int .i64 i).wf = true := by
  intro u hu
  obtain ⟨j, hj, rfl⟩ := List.getElem_of_mem hu
  have hm : j % ks.length < ks.length := Nat.mod_lt _ hp
  have e := hk _ (List.getElem_mem hm)
  obtain ⟨z, hz, hw⟩ := h.int hj (by rw [List.getElem?_eq_getElem hm, e])
  rw [List.getElem?_eq_getElem hj] at hz
  injection hz with hz
  exact ⟨z, hz, hw⟩

theorem add_field' (a : Addr) (q j : Nat) (hj : j ≠ 0) : a.add (q + j) = ⟨(a.add q).block, (a.add q).off + j, none⟩ := by
  rw [← add_of_add]
  show (a.add q).add j = _
  unfold Addr.add
  rw [if_neg hj]

theorem tmod_bdn (a : Int) (n : Int) (h : 0 < n) : -n < a.tmod n ∧ a.tmod n < n := by
  have h' : (a.tmod n).natAbs < n.natAbs := by
    rw [Int.natAbs_tmod]; exact Nat.mod_lt _ (by omega)
  omega
end Go.Proofs.Ytephgikeofkblaa
