import Derived.IntWalk
import Derived.WalkKit
import Derived.Test.YtjofegjiakjjhaaDoorMBuilt
import Derived.ChangeSlices
import Derived.Deep.Slices
import Derived.Deep.Fields
import Derived.ChangeSame
/- A bit mask of the lowest bits is a remainder. -/
namespace Go.Proofs.YtjofegjiakjjhaaDoor
open Go.RowKit

/-- A bit mask of the lowest bits is a remainder. -/
theorem mask64 (x : Int) (j : Nat) (hj : j ≤ 62) : bits .and .i64 x (2 ^ j - 1) = x % 2 ^ j := by
  have hp : (2 : Nat) ^ j ≤ 2 ^ 62 := Nat.pow_le_pow_right (by omega) hj
  have hp1 : 0 < (2 : Nat) ^ j := Nat.two_pow_pos j
  have e2 : ((2 : Int) ^ j) = ((2 ^ j : Nat) : Int) := by simp
  show IntKind.i64.wrap ((BitVec.ofInt 64 x &&& BitVec.ofInt 64 (2 ^ j - 1)).toNat : Int) = _
  have e1 : (BitVec.ofInt 64 ((2 : Int) ^ j - 1)).toNat = 2 ^ j - 1 := by
    rw [BitVec.toNat_ofInt, e2]; omega
  rw [BitVec.toNat_and, e1, Nat.and_two_pow_sub_one_eq_mod, BitVec.toNat_ofInt]
  have e3 : (((x % ((2 ^ 64 : Nat) : Int)).toNat % 2 ^ j : Nat) : Int) = x % 2 ^ j := by
    rw [Int.natCast_emod, Int.toNat_of_nonneg (Int.emod_nonneg _ (by omega)), e2]
    refine Int.emod_emod_of_dvd _ ?_
    exact Int.natCast_dvd_natCast.2 (Nat.pow_dvd_pow 2 (by omega))
  rw [e3, e2]
  have h1 := Int.emod_nonneg x (b := ((2 ^ j : Nat) : Int)) (by omega)
  have h2 := Int.emod_lt_of_pos x (b := ((2 ^ j : Nat) : Int)) (by omega)
  exact IntWalk.i64_in _ (by omega)

end Go.Proofs.YtjofegjiakjjhaaDoor
/- A slice cut at a place: the two operations as equations. -/
namespace Go.Proofs.YtjofegjiakjjhaaDoor
open Go Go.RowKit
section
variable {P : Program}

theorem addr_add0 (A : Option Addr) : A.map (·.add 0) = A := by
  cases A with
  | none => rfl
  | some a => simp [Addr.add]

theorem run_cut_lo (w : World) {t e : TypeId} {i : TypeInfo} (ht : P.underlying t = some (.slice e)) (hi : P.info? e = some i) (A : Option Addr) (n c k : Nat) (hk : k ≤ c) :
    (Instr.slice t (.slice A n c) none (some (.int .i64 (k : Int))) none).run P w = .ok (.slice A k c) w := by
  have e0 : (if c = 0 then A else A.map (·.add (0 * i.size))) = A := by
    rw [Nat.zero_mul, addr_add0]; split <;> rfl
  simp [Instr.slice, Instr.sliceBounds, Instr.sliceBound, asIntOf, run_underlying ht, sizeOf, typeInfo, hi, hk, Result.andThen]
  simpa using e0

theorem run_cut_hi (w : World) {t e : TypeId} {i : TypeInfo} (ht : P.underlying t = some (.slice e)) (hi : P.info? e = some i) (size : Nat) (hz : i.size = size) (A : Option Addr) (n c k : Nat) (hk : k ≤ n) :
    (Instr.slice t (.slice A n c) (some (.int .i64 (k : Int))) none none).run P w = .ok (.slice (if c = k then A else A.map (·.add (k * size))) (n - k) (c - k)) w := by
  simp [Instr.slice, Instr.sliceBounds, Instr.sliceBound, asIntOf, run_underlying ht, sizeOf, typeInfo, hi, hz, hk, Result.andThen]
end
end Go.Proofs.YtjofegjiakjjhaaDoor
/- A list of structs as the list of its cells. -/
namespace Go.Proofs.YtjofegjiakjjhaaDoor
open Go.RowKit
section
variable {α : Type} {f : α → List Value} {s : Nat}

theorem flat_len (hf : ∀ x, (f x).length = s) (ps : List α) : (ps.flatMap f).length = ps.length * s := by
  induction ps with
  | nil => simp
  | cons a as ih => rw [List.flatMap_cons, List.length_append, ih, hf, List.length_cons, Nat.succ_mul, Nat.add_comm]

theorem flat_get (hf : ∀ x, (f x).length = s) : ∀ (ps : List α) (i q : Nat) (x : α), ps[i]? = some x → q < s → (ps.flatMap f)[i * s + q]? = (f x)[q]?
  | [], i, q, x, h, _ => by simp at h
  | a :: as, 0, q, x, h, hq => by
    simp at h
    subst h
    rw [List.flatMap_cons, Nat.zero_mul, Nat.zero_add, List.getElem?_append_left (by rw [hf]; exact hq)]
  | a :: as, i + 1, q, x, h, hq => by
    simp at h
    rw [List.flatMap_cons, List.getElem?_append_right (by rw [hf, Nat.succ_mul]; omega), hf]
    rw [show (i + 1) * s + q - s = i * s + q from by rw [Nat.succ_mul]; omega]
    exact flat_get hf as i q x h hq

theorem flat_set (hf : ∀ x, (f x).length = s) : ∀ (ps : List α) (i q : Nat) (x x' : α) (u : Value), ps[i]? = some x → q < s → f x' = (f x).set q u → (ps.flatMap f).set (i * s + q) u = (ps.set i x').flatMap f
  | [], i, q, x, x', u, h, _, _ => by simp at h
  | a :: as, 0, q, x, x', u, h, hq, he => by
    simp at h
    subst h
    rw [List.flatMap_cons, Nat.zero_mul, Nat.zero_add, List.set_append_left _ _ (by rw [hf]; exact hq), List.set_cons_zero, List.flatMap_cons, he]
  | a :: as, i + 1, q, x, x', u, h, hq, he => by
    simp at h
    rw [List.flatMap_cons, List.set_append_right _ _ (by rw [hf, Nat.succ_mul]; omega), hf, List.set_cons_succ, List.flatMap_cons]
    rw [show (i + 1) * s + q - s = i * s + q from by rw [Nat.succ_mul]; omega]
    rw [flat_set hf as i q x x' u h hq he]

/-- A slice of structs that the call owns: its cells. -/
theorem own_cell (hf : ∀ x, (f x).length = s) {w : World} {base : Nat} {e : TypeId} {g cap n : Nat} {ps : List α} (h : w.ownsRow base e s (.slice (some ⟨g, 0, none⟩) n cap) n (ps.flatMap f)) {i q : Nat} {x : α} (hi : ps[i]? = some x) (hq : q < s) : w.cell? ⟨g, i * s + q, none⟩ = (f x)[q]? := by
  have hl := h.1
  rw [flat_len hf] at hl
  have hil : i < ps.length := (List.getElem?_eq_some_iff.1 hi).1
  have hs : 0 < s := by omega
  have hn : ps.length = n := Nat.eq_of_mul_eq_mul_right hs hl
  have : i * s + q < n * s := by
    have h1 : (i + 1) * s ≤ n * s := Nat.mul_le_mul_right s (by omega)
    rw [Nat.succ_mul] at h1
    omega
  rw [h.cellAt _ this, flat_get hf ps i q x hi hq]

theorem own_stored (hf : ∀ x, (f x).length = s) {w : World} {base : Nat} {e : TypeId} {g cap n : Nat} {ps : List α} (h : w.ownsRow base e s (.slice (some ⟨g, 0, none⟩) n cap) n (ps.flatMap f)) {i q : Nat} {x x' : α} {u : Value} (hi : ps[i]? = some x) (hq : q < s) (he : f x' = (f x).set q u) :
    (w.setCell ⟨g, i * s + q, none⟩ u).ownsRow base e s (.slice (some ⟨g, 0, none⟩) n cap) n ((ps.set i x').flatMap f) := by
  have := h.stored (i * s + q) u
  rw [flat_set hf ps i q x x' u hi hq he] at this
  exact this.1
end
end Go.Proofs.YtjofegjiakjjhaaDoor
/- A slice that comes in, whose elements are numbers, truth values or structs of such (to any depth), opened: it reads as the list of its cells, each of its kind. -/
namespace Go.Proofs.YtjofegjiakjjhaaDoor
open Go.ChangeShapes Go.WideShapes Go.Deep Go.RowKit

/-- What one cell is. -/
inductive CK where
  | i (k : IntKind)
  | b

/-- A cell of a kind. -/
def CellOk : CK → Value → Prop
  | .i k, v => ∃ z, v = .int k z ∧ (Lit.int k z).wf = true
  | .b, v => ∃ c, v = .bool c

/-- Cell q of a type's cells is of a kind. -/
inductive At (P : Program) : TypeId → Nat → CK → Prop
  | int {t : TypeId} {k : IntKind} (h : P.underlying t = some (.int k)) : At P t 0 (.i k)
  | bool {t : TypeId} (h : P.underlying t = some .bool) : At P t 0 .b
  | field {t : TypeId} {fs : Array Field} {i : Nat} {f : Field} {q n : Nat} {c : CK} (h : P.underlying t = some (.struct fs)) (hf : fs[i]? = some f) (ha : At P f.type q c) (hq : q < P.cellsOf f.type) (e : n = f.offset + q) : At P t n c

section
variable {H : Type} {enc : TypeId × Value → H} {P : Program} {w : World} {base : Nat} {spare : Nat → Bool} {held : Bool}

theorem At.cell {t : TypeId} {q : Nat} {c : CK} (h : At P t q c) : ∀ {fuel : Nat} {cs : List Value} {x : DataW H × List MemPlace}, DataW.trod enc P w base spare held fuel t cs = some x → ∃ v, cs[q]? = some v ∧ CellOk c v := by
  induction h with
  | int h =>
    intro fuel cs x ht
    obtain ⟨z, rfl, _, hw⟩ := DataW.trod_int h ht
    exact ⟨_, rfl, z, rfl, hw⟩
  | bool h =>
    intro fuel cs x ht
    obtain ⟨z, rfl, _⟩ := DataW.trod_bool h ht
    exact ⟨_, rfl, z, rfl⟩
  | @field t fs i f q m c h hf ha hq e ih =>
    intro fuel cs x ht
    subst e
    obtain ⟨xs, n, _, _, hlen, hxl, hg⟩ := DataW.trod_struct h ht
    have hi : i < xs.length := by rw [hxl]; exact (Array.getElem?_eq_some_iff.1 hf).1
    have h1 := hg i f hf
    rw [List.getElem?_eq_getElem hi] at h1
    obtain ⟨v, hv, hc⟩ := ih h1
    refine ⟨v, ?_, hc⟩
    rw [List.getElem?_take, if_pos hq, List.getElem?_drop] at hv
    exact hv

theorem open_row_cells {t e : TypeId} {ks : List CK} {W : World} {b0 : Nat} {v : Value} {d : DataW H} {ps : List MemPlace} (ht : P.underlying t = some (.slice e)) (hC : P.cellsOf e = ks.length) (hpos : 0 < ks.length)
    (ha : ∀ q c, ks[q]? = some c → At P e q c) (hv : Value.okWide P W .any b0 t v) (h : DataW.Trod enc P W 0 (fun _ => true) true t v d ps) :
    ∃ (A : Option Addr) (n c : Nat) (xs : List Value), v = .slice A n c ∧ Reads W W.heap.size ks.length A n xs ∧ (∀ j u k, xs[j]? = some u → ks[j % ks.length]? = some k → CellOk k u) ∧ n ≤ c ∧ c ≤ maxLen := by
  obtain ⟨A, n, c, rfl⟩ := okWide_slice ht hv
  obtain ⟨fuel, hd⟩ := h
  have hd' : DataW.trod enc P W 0 (fun _ => true) true fuel t [.slice A n c] = some (d, ps) := by simpa [Value.cells] using hd
  rcases open_slice ht hd' with ⟨h1, _⟩ | ⟨a, len, cap, m, n', D, Pl, h1, _, hl, hm, hmm, _, hi⟩
  · simp at h1
    obtain ⟨rfl, rfl, rfl⟩ := h1
    exact ⟨none, 0, 0, [], rfl, ⟨by simp, fun h => absurd h (by omega)⟩, by simp, Nat.le_refl _, by unfold maxLen; omega⟩
  · simp at h1
    obtain ⟨rfl, rfl, rfl⟩ := h1
    rw [if_pos rfl] at hmm
    have hcell : ∀ q, q < n * ks.length → ∃ u, W.cell? (a.add q) = some u ∧ ∀ k, ks[q % ks.length]? = some k → CellOk k u := by
      intro q hq
      have hi' : q / ks.length < n := by rw [Nat.div_lt_iff_lt_mul hpos]; exact hq
      have hj : q % ks.length < ks.length := Nat.mod_lt _ hpos
      obtain ⟨cs', hc, htr⟩ := hi (q / ks.length) (by omega)
      rw [hC] at hc
      obtain ⟨_, hcl, hat⟩ := World.cells?_some hc
      have h2 := hat _ hj
      obtain ⟨u, hu, _⟩ := (ha _ _ (List.getElem?_eq_getElem hj)).cell htr
      refine ⟨u, ?_, fun k hk => ?_⟩
      · have e : a.add q = (a.add (q / ks.length * ks.length)).add (q % ks.length) := by rw [add_of_add, Nat.div_add_mod' q ks.length]
        rw [e, h2, hu]
      · obtain ⟨u', hu', hok⟩ := (ha _ _ hk).cell htr
        rw [hu] at hu'
        cases hu'
        exact hok
    refine ⟨some a, n, c, (List.range (n * ks.length)).map fun q => (W.cell? (a.add q)).getD (.bool false), rfl, ⟨by simp, fun hn => ⟨a, rfl, ?_, ?_⟩⟩, ?_, hl, hm⟩
    · obtain ⟨i, h0, _⟩ := hcell 0 (Nat.mul_pos hn hpos)
      have := World.block_lt_of_cell? _ _ h0
      rwa [block_of_add] at this
    · intro j u hu
      have hj : j < n * ks.length := by
        have := (List.getElem?_eq_some_iff.1 hu).1
        simpa using this
      obtain ⟨i, hc, _⟩ := hcell j hj
      rw [List.getElem?_map, List.getElem?_range hj] at hu
      simp [hc] at hu
      rw [hc, hu]
    · intro j u k hu hk
      have hj : j < n * ks.length := by
        have := (List.getElem?_eq_some_iff.1 hu).1
        simpa using this
      obtain ⟨i, hc, hok⟩ := hcell j hj
      rw [List.getElem?_map, List.getElem?_range hj] at hu
      simp [hc] at hu
      rw [← hu]
      exact hok k hk
end
end Go.Proofs.YtjofegjiakjjhaaDoor
