/- A slice that comes in, whose elements are numbers, truth values or structs of such (to any depth), opened: it reads as the list of its cells, each of its kind. -/
import Derived.Test.YtkpngkdkkcadfaaMem
import Derived.ChangeSlices
import Derived.Deep.Slices
import Derived.Deep.Fields
import Derived.ChangeSame
namespace Go.Proofs.Ytkpngkdkkcadfaa
open Go.ChangeShapes Go.WideShapes Go.Deep Go.RowKit

/-- What one cell is. -/
inductive CK where
  | i (k : IntKind)
  | b

/-- A cell of a kind. -/
def CellOk : CK → Value → Prop
  | .i k, v => ∃ z, v = .int k z ∧ (Lit.int k z).wf = true
  | .b, v => ∃ c, v = .bool c

/-- Cell q of a type's cells is of a kind. -/
inductive At (P : Program) : TypeId → Nat → CK → Prop
  | int {t : TypeId} {k : IntKind} (h : P.underlying t = some (.int k)) : At P t 0 (.i k)
  | bool {t : TypeId} (h : P.underlying t = some .bool) : At P t 0 .b
  | field {t : TypeId} {fs : Array Field} {i : Nat} {f : Field} {q n : Nat} {c : CK} (h : P.underlying t = some (.struct fs)) (hf : fs[i]? = some f) (ha : At P f.type q c) (hq : q < P.cellsOf f.type) (e : n = f.offset + q) : At P t n c

section
variable {H : Type} {enc : TypeId × Value → H} {P : Program} {w : World} {base : Nat} {spare : Nat → Bool} {held : Bool}

theorem At.cell {t : TypeId} {q : Nat} {c : CK} (h : At P t q c) : ∀ {fuel : Nat} {cs : List Value} {x : DataW H × List MemPlace}, DataW.trod enc P w base spare held fuel t cs = some x → ∃ v, cs[q]? = some v ∧ CellOk c v := by
  induction h with
  | int h =>
    intro fuel cs x ht
    obtain ⟨z, rfl, _, hw⟩ := DataW.trod_int h ht
    exact ⟨_, rfl, z, rfl, hw⟩
  | bool h =>
    intro fuel cs x ht
    obtain ⟨z, rfl, _⟩ := DataW.trod_bool h ht
    exact ⟨_, rfl, z, rfl⟩
  | @field t fs i f q m c h hf ha hq e ih =>
    intro fuel cs x ht
    subst e
    obtain ⟨xs, n, _, _, hlen, hxl, hg⟩ := DataW.trod_struct h ht
    have hi : i < xs.length := by rw [hxl]; exact (Array.getElem?_eq_some_iff.1 hf).1
    have h1 := hg i f hf
    rw [List.getElem?_eq_getElem hi] at h1
    obtain ⟨v, hv, hc⟩ := ih h1
    refine ⟨v, ?_, hc⟩
    rw [List.getElem?_take, if_pos hq, List.getElem?_drop] at hv
    exact hv

theorem open_row_cells {t e : TypeId} {ks : List CK} {W : World} {b0 : Nat} {v : Value} {d : DataW H} {ps : List MemPlace} (ht : P.underlying t = some (.slice e)) (hC : P.cellsOf e = ks.length) (hpos : 0 < ks.length)
    (ha : ∀ q c, ks[q]? = some c → At P e q c) (hv : Value.okWide P W .any b0 t v) (h : DataW.Trod enc P W 0 (fun _ => true) true t v d ps) :
    ∃ (A : Option Addr) (n c : Nat) (xs : List Value), v = .slice A n c ∧ Reads W W.heap.size ks.length A n xs ∧ (∀ j u k, xs[j]? = some u → ks[j % ks.length]? = some k → CellOk k u) ∧ n ≤ c ∧ c ≤ maxLen := by
  obtain ⟨A, n, c, rfl⟩ := okWide_slice ht hv
  obtain ⟨fuel, hd⟩ := h
  have hd' : DataW.trod enc P W 0 (fun _ => true) true fuel t [.slice A n c] = some (d, ps) := by simpa [Value.cells] using hd
  rcases open_slice ht hd' with ⟨h1, _⟩ | ⟨a, len, cap, m, n', D, Pl, h1, _, hl, hm, hmm, _, hi⟩
  · simp at h1
    obtain ⟨rfl, rfl, rfl⟩ := h1
    exact ⟨none, 0, 0, [], rfl, ⟨by simp, fun h => absurd h (by omega)⟩, by simp, Nat.le_refl _, by unfold maxLen; omega⟩
  · simp at h1
    obtain ⟨rfl, rfl, rfl⟩ := h1
    rw [if_pos rfl] at hmm
    have hcell : ∀ q, q < n * ks.length → ∃ u, W.cell? (a.add q) = some u ∧ ∀ k, ks[q % ks.length]? = some k → CellOk k u := by
      intro q hq
      have hi' : q / ks.length < n := by rw [Nat.div_lt_iff_lt_mul hpos]; exact hq
      have hj : q % ks.length < ks.length := Nat.mod_lt _ hpos
      obtain ⟨cs', hc, htr⟩ := hi (q / ks.length) (by omega)
      rw [hC] at hc
      obtain ⟨_, hcl, hat⟩ := World.cells?_some hc
      have h2 := hat _ hj
      obtain ⟨u, hu, _⟩ := (ha _ _ (List.getElem?_eq_getElem hj)).cell htr
      refine ⟨u, ?_, fun k hk => ?_⟩
      · have e : a.add q = (a.add (q / ks.length * ks.length)).add (q % ks.length) := by rw [add_of_add, Nat.div_add_mod' q ks.length]
        rw [e, h2, hu]
      · obtain ⟨u', hu', hok⟩ := (ha _ _ hk).cell htr
        rw [hu] at hu'
        cases hu'
        exact hok
    refine ⟨some a, n, c, (List.range (n * ks.length)).map fun q => (W.cell? (a.add q)).getD (.bool false), rfl, ⟨by simp, fun hn => ⟨a, rfl, ?_, ?_⟩⟩, ?_, hl, hm⟩
    · obtain ⟨i, h0, _⟩ := hcell 0 (Nat.mul_pos hn hpos)
      have := World.block_lt_of_cell? _ _ h0
      rwa [block_of_add] at this
    · intro j u hu
      have hj : j < n * ks.length := by
        have := (List.getElem?_eq_some_iff.1 hu).1
        simpa using this
      obtain ⟨i, hc, _⟩ := hcell j hj
      rw [List.getElem?_map, List.getElem?_range hj] at hu
      simp [hc] at hu
      rw [hc, hu]
    · intro j u k hu hk
      have hj : j < n * ks.length := by
        have := (List.getElem?_eq_some_iff.1 hu).1
        simpa using this
      obtain ⟨i, hc, hok⟩ := hcell j hj
      rw [List.getElem?_map, List.getElem?_range hj] at hu
      simp [hc] at hu
      rw [← hu]
      exact hok k hk
end
end Go.Proofs.Ytkpngkdkkcadfaa
