/- A slice of structs of whole numbers that comes in, opened: it reads as the list of its cells. (open_slice_fields: copied from the guide's page extra-structs.md as it tells one to.) -/
import Derived.Test.YtibklcjjdnhkdaaRows2
import Derived.Deep.Slices
import Derived.Deep.Fields
import Derived.ChangeSame
namespace Go.Proofs.Ytibklcjjdnhkdaa
open Go.ChangeShapes Go.WideShapes Go.Deep Go.RowKit
section
variable {H : Type} {enc : TypeId × Value → H} {P : Program} {w : World} {base : Nat} {spare : Nat → Bool} {held : Bool}
theorem open_slice_fields {t e : TypeId} {fs : Array Field} {fuel : Nat} {cs : List Value} {x : DataW H × List MemPlace} (ht : P.underlying t = some (.slice e)) (he : P.underlying e = some (.struct fs))
    (hone : oneCellFields P fs = true) (hC : P.cellsOf e = fs.size) (h : DataW.trod enc P w base spare held fuel t cs = some x) :
    (cs = [.slice none 0 0] ∧ x = (.nil, [])) ∨
    ∃ (a : Addr) (len cap m : Nat) (D : Nat → DataW H) (Pl : Nat → List MemPlace), cs = [.slice (some a) len cap] ∧ base ≤ a.block ∧ len ≤ cap ∧ cap ≤ maxLen ∧ m = (if spare a.block then cap else len) ∧
      x = (.slice ((List.range len).map D) ((List.range (m - len)).map fun j => D (len + j)), MemPlace.row a (m * fs.size) ++ (List.range m).flatMap Pl) ∧
      ∀ i, i < m → ∃ (ys : List (DataW H × List MemPlace)) (n : Nat), D i = .agg (ys.map (·.1)) ∧ Pl i = ys.flatMap (·.2) ∧ ys.length = fs.size ∧
        ∀ (j : Nat) (f : Field), fs[j]? = some f → ∃ (v : Value) (y : DataW H × List MemPlace), w.cell? (a.add (i * fs.size + j)) = some v ∧ ys[j]? = some y ∧ DataW.trod enc P w base spare held n f.type [v] = some y := by
  rcases open_slice ht h with h0 | ⟨a, len, cap, m, n, D, Pl, hcs, hb, hl, hm, hmm, hx, hi⟩
  · exact .inl h0
  · refine .inr ⟨a, len, cap, m, D, Pl, hcs, hb, hl, hm, hmm, by rw [hC] at hx; exact hx, fun i him => ?_⟩
    obtain ⟨cs', hc, ht'⟩ := hi i him
    rw [hC] at hc
    obtain ⟨ys, n', hn', hy, hlen, hyl, hf⟩ := DataW.trod_struct he ht'
    obtain ⟨_, hcl, hat⟩ := World.cells?_some hc
    simp only [Prod.mk.injEq] at hy
    refine ⟨ys, n', hy.1, hy.2, hyl, fun j f hj => ?_⟩
    obtain ⟨ho, hk⟩ := hone_of hone j f hj
    have hjl : j < fs.size := (Array.getElem?_eq_some_iff.1 hj).1
    have hcell := hat j hjl
    have hv : cs'[j]? = some (cs'[j]'(by omega)) := List.getElem?_eq_getElem (by omega)
    have h1 := hf j f hj
    rw [ho, hk] at h1
    have hone' : (cs'.drop j).take 1 = [cs'[j]'(by omega)] := by
      rw [List.drop_eq_getElem_cons (by omega)]
      rfl
    rw [hone'] at h1
    have hys : ys[j]? = some (ys[j]'(by omega)) := List.getElem?_eq_getElem (by omega)
    refine ⟨_, _, ?_, hys, h1.trans hys⟩
    rw [← Go.Deep.add_add, hcell, hv]
end

section
variable {H : Type} {enc : TypeId × Value → H} {P : Program}
theorem open_row_structs {t e ti : TypeId} {fs : Array Field} {k : IntKind} {W : World} {b0 : Nat} {v : Value} {d : DataW H} {ps : List MemPlace} (ht : P.underlying t = some (.slice e)) (he : P.underlying e = some (.struct fs))
    (hone : oneCellFields P fs = true) (hC : P.cellsOf e = fs.size) (hti : ∀ (j : Nat) (f : Field), fs[j]? = some f → f.type = ti) (hu : P.underlying ti = some (.int k)) (hpos : 0 < fs.size)
    (hv : Value.okWide P W .any b0 t v) (h : DataW.Trod enc P W 0 (fun _ => true) true t v d ps) :
    ∃ (A : Option Addr) (n c : Nat) (xs : List Value), v = .slice A n c ∧ Reads W W.heap.size fs.size A n xs ∧ (∀ u ∈ xs, ∃ i, u = .int k i ∧ (Lit.int k i).wf = true) ∧ n ≤ c ∧ c ≤ maxLen := by
  obtain ⟨A, n, c, rfl⟩ := okWide_slice ht hv
  obtain ⟨fuel, hd⟩ := h
  have hd' : DataW.trod enc P W 0 (fun _ => true) true fuel t [.slice A n c] = some (d, ps) := by simpa [Value.cells] using hd
  rcases open_slice_fields ht he hone hC hd' with ⟨h1, _⟩ | ⟨a, len, cap, m, D, Pl, h1, _, hl, hm, hmm, _, hf⟩
  · simp at h1
    obtain ⟨rfl, rfl, rfl⟩ := h1
    exact ⟨none, 0, 0, [], rfl, ⟨by simp, fun h => absurd h (by omega)⟩, by simp, Nat.le_refl _, by unfold maxLen; omega⟩
  · simp at h1
    obtain ⟨rfl, rfl, rfl⟩ := h1
    rw [if_pos rfl] at hmm
    have hcell : ∀ q, q < n * fs.size → ∃ i, W.cell? (a.add q) = some (.int k i) ∧ (Lit.int k i).wf = true := by
      intro q hq
      have hi : q / fs.size < n := by rw [Nat.div_lt_iff_lt_mul hpos]; exact hq
      have hj : q % fs.size < fs.size := Nat.mod_lt _ hpos
      obtain ⟨ys, n', _, _, _, hfj⟩ := hf (q / fs.size) (by omega)
      obtain ⟨v, y, hc, _, htr⟩ := hfj (q % fs.size) fs[q % fs.size] (Array.getElem?_eq_getElem hj)
      rw [Nat.div_add_mod' q fs.size] at hc
      rw [hti _ _ (Array.getElem?_eq_getElem hj)] at htr
      obtain ⟨z, hz, _, hw⟩ := DataW.trod_int hu htr
      injection hz with hz
      subst hz
      exact ⟨z, hc, hw⟩
    refine ⟨some a, n, c, (List.range (n * fs.size)).map fun q => (W.cell? (a.add q)).getD (.int k 0), rfl, ⟨by simp, fun hn => ⟨a, rfl, ?_, ?_⟩⟩, ?_, hl, hm⟩
    · obtain ⟨i, h0, _⟩ := hcell 0 (Nat.mul_pos hn hpos)
      have := World.block_lt_of_cell? _ _ h0
      rwa [block_of_add] at this
    · intro j u hu
      have hj : j < n * fs.size := by
        have := (List.getElem?_eq_some_iff.1 hu).1
        simpa using this
      obtain ⟨i, hc, _⟩ := hcell j hj
      rw [List.getElem?_map, List.getElem?_range hj] at hu
      simp [hc] at hu
      rw [hc, hu]
    · intro u hu
      rw [List.mem_map] at hu
      obtain ⟨q, hq, rfl⟩ := hu
      obtain ⟨i, hc, hw⟩ := hcell q (List.mem_range.1 hq)
      exact ⟨i, by rw [hc]; rfl, hw⟩
end
end Go.Proofs.Ytibklcjjdnhkdaa
