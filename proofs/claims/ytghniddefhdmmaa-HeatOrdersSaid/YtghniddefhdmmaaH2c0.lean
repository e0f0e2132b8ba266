/- Plain laws beneath HeatOrders, and words for its memory. -/
import Derived.Test.YtghniddefhdmmaaH2b
import Derived.Test.YtghniddefhdmmaaHti
import Derived.Test.YtghniddefhdmmaaRows2
namespace Go.Proofs.Ytghniddefhdmmaa
open Go.RowKit Flo

theorem hints_of {xs : List Value} (h : ∀ u ∈ xs, ∃ i, u = .int .i64 i ∧ (Lit.int .i64 i).wf = true) : ∃ ls : List Int, xs = ls.map (Value.int .i64) := by
  induction xs with
  | nil => exact ⟨[], rfl⟩
  | cons x xs ih =>
    obtain ⟨ls, rfl⟩ := ih fun u hu => h u (List.mem_cons_of_mem _ hu)
    obtain ⟨i, rfl, _⟩ := h _ (List.mem_cons_self ..)
    exact ⟨i :: ls, rfl⟩

theorem own_slc {w : World} {base n : Nat} {e : TypeId} {v : Value} {xs : List Value} (h : w.ownsRow base e 1 v n xs) : ∃ A c, v = .slice A n c ∧ Reads w w.heap.size 1 A n xs := by
  rcases h.2 with ⟨rfl, h0⟩ | ⟨g, cap, cur, rfl, _⟩
  · subst h0
    have e : xs = [] := List.eq_nil_of_length_eq_zero (by have := h.1; simpa using this)
    subst e
    exact ⟨none, 0, rfl, Reads.none_⟩
  · exact ⟨_, _, rfl, Reads.of_own h⟩

/-- A heat of parts up to 3. -/
def Sml (x : Int × Int) : Prop := (0 ≤ x.1 ∧ x.1 ≤ 3) ∧ 0 ≤ x.2 ∧ x.2 ≤ 3
theorem Sml.rgt {x : Int × Int} (h : Sml x) : Rgt x := by
  obtain ⟨⟨a, b⟩, c, d⟩ := h
  exact ⟨⟨a, by omega⟩, c, by omega⟩

theorem mask3 (x : Int) : ∃ q : Int, bits .and .i64 x 3 = q ∧ 0 ≤ q ∧ q ≤ 3 := ⟨x % 4, by rw [show (3 : Int) = 2 ^ 2 - 1 by decide, mask64 x 2 (by decide)]; rfl, by omega, by omega⟩

/-- What the loop has built. -/
def BldR (w : World) (n0 : Nat) (v5 v6 : Value) (wr : World) : Prop := ∃ (i : Nat) (hs : List (Int × Int)), v6 = .int .i64 i ∧ i ≤ n0 ∧ i ≤ 40 ∧ hs.length = i ∧ (∀ x ∈ hs, Sml x) ∧ wr.ownsRow w.heap.size 22 1 v5 i (hs.map hv) ∧ Below w.heap.size w wr

/-- A rank's places lie apart. -/
theorem rank_nodup {d : List Int} {n : Nat} (h : d.Perm ((List.range n).map Int.ofNat)) : d.Pairwise (· ≠ ·) := by
  refine (List.Perm.pairwise_iff (fun {a b} hab => Ne.symm hab) h).2 ?_
  rw [List.pairwise_map]
  exact (List.nodup_range (n := n)).imp (fun hab e => hab (Int.ofNat.inj e))
theorem rank_in {d : List Int} {n : Nat} (h : d.Perm ((List.range n).map Int.ofNat)) {k : Nat} (hk : k < n) : ∃ y : Nat, ele d k = y ∧ y < n := by
  have hl : d.length = n := by have := h.length_eq; simpa using this
  have hm : ele d k ∈ d := ele_in (by omega)
  obtain ⟨y, hy, e⟩ := List.mem_map.1 (h.mem_iff.1 hm)
  exact ⟨y, e.symm, List.mem_range.1 hy⟩
theorem rank_ne {d : List Int} {n : Nat} (h : d.Perm ((List.range n).map Int.ofNat)) {i j : Nat} (hij : i < j) (hj : j < n) : ele d i ≠ ele d j := by
  have hl : d.length = n := by have := h.length_eq; simpa using this
  have := List.pairwise_iff_getElem.1 (rank_nodup h) i j (by omega) (by omega) hij
  unfold ele
  rw [List.getD_eq_getElem?_getD, List.getD_eq_getElem?_getD, List.getElem?_eq_getElem (by omega), List.getElem?_eq_getElem (by omega)]
  exact this

theorem take_ele {d : List Int} {i : Nat} (h : i < d.length) : d.take (i + 1) = d.take i ++ [ele d i] := by
  rw [List.take_succ_eq_append_getElem h]
  unfold ele
  rw [List.getD_eq_getElem?_getD, List.getElem?_eq_getElem h]; rfl

theorem coldV_snoc {bs : List Bool} {x : Int} (hx : 0 ≤ x) : ∀ {l : List Int}, (∀ y ∈ l, 0 ≤ y) → coldV bs (l ++ [x]) = if coldV bs l < 0 then (if bel bs x.toNat then -1 else x) else coldV bs l
  | [], _ => rfl
  | y :: l, h => by
    show (if bel bs y.toNat then coldV bs (l ++ [x]) else y) = if (if bel bs y.toNat then coldV bs l else y) < 0 then _ else (if bel bs y.toNat then coldV bs l else y)
    have h0 := h y (List.mem_cons_self ..)
    cases bel bs y.toNat
    · simp; omega
    · simp only [if_true]
      exact coldV_snoc hx (fun z hz => h z (List.mem_cons_of_mem _ hz))

/-- Two ranks of the same heats are one. -/
theorem rank_one {hs : List (Int × Int)} {d d' : List Int} {n : Nat} (hn : n ≤ 1000) (h1 : d.Perm ((List.range n).map Int.ofNat)) (h2 : Srtd (d.map (lex hs)) 0 n) (h3 : d'.Perm ((List.range n).map Int.ofNat)) (h4 : Srtd (d'.map (lex hs)) 0 n) : d' = d := by
  have hl : d.length = n := by have := h1.length_eq; simpa using this
  have hl' : d'.length = n := by have := h3.length_eq; simpa using this
  have hp : (d.map (lex hs)).Pairwise fun a b => a ≤ b := srtd_eq (by rw [List.length_map, hl]; exact h2)
  rw [List.pairwise_map] at hp
  refine rank_is (h3.trans h1.symm) hl' h4 hp (fun a ha b hb e => ?_)
  obtain ⟨x, hx, rfl⟩ := List.mem_map.1 (h1.mem_iff.1 ha)
  obtain ⟨y, hy, rfl⟩ := List.mem_map.1 (h1.mem_iff.1 hb)
  have hx := List.mem_range.1 hx
  have hy := List.mem_range.1 hy
  unfold lex at e
  have e1 : ((Int.ofNat x : Int)) = (x : Int) := rfl
  have e2 : ((Int.ofNat y : Int)) = (y : Int) := rfl
  rw [e1, e2] at e ⊢
  omega

/-- What the order tells of two neighbours. -/
theorem rank_step {hs : List (Int × Int)} {p q : Int × Int} {x y : Nat} (hp : Sml p) (hq : Sml q) (hx : hAt hs x = p) (hy : hAt hs y = q) (hle : lex hs (x : Int) ≤ lex hs (y : Int)) (hx1 : x ≤ 1000) (hy1 : y ≤ 1000) :
    p.1 * p.1 + p.2 * p.2 ≤ q.1 * q.1 + q.2 * q.2 ∧ (p.1 = q.1 → p.2 = q.2 → x ≤ y) := by
  unfold lex hk at hle
  rw [Int.toNat_natCast, Int.toNat_natCast, hx, hy] at hle
  obtain ⟨⟨a1, a2⟩, a3, a4⟩ := hp
  obtain ⟨⟨b1, b2⟩, b3, b4⟩ := hq
  constructor
  · generalize p.1 * p.1 + p.2 * p.2 = P at hle ⊢
    generalize q.1 * q.1 + q.2 * q.2 = Q at hle ⊢
    omega
  · intro e1 e2
    rw [e1, e2] at hle
    generalize q.1 * q.1 + q.2 * q.2 = Q at hle
    omega
end Go.Proofs.Ytghniddefhdmmaa
