/- Plain laws of rising lists: where a number stands, put in, taken out. -/
import Derived.Test.YtkpngkdkkcadfaaIxb
namespace Go.Proofs.Ytkpngkdkkcadfaa
open Go.RowKit Mk

def cn (x : Int) (l : List Int) : Nat := l.countP (· < x)
theorem cn_pos {x : Int} : ∀ {l : List Int}, l.Pairwise (· < ·) → ∀ {j : Nat} {o : Int}, l[j]? = some o → (o < x ↔ j < cn x l)
  | [], _, j, o, h => by simp at h
  | a :: l, hs, j, o, h => by
    obtain ⟨h1, h2⟩ := List.pairwise_cons.1 hs
    unfold cn
    rw [List.countP_cons]
    by_cases ha : a < x
    · rw [if_pos (by simpa using ha)]
      cases j with
      | zero => simp at h; subst h; exact ⟨fun _ => by omega, fun _ => ha⟩
      | succ j =>
        simp at h
        have := cn_pos h2 (x := x) h
        unfold cn at this
        rw [this]; omega
    · have h0 : l.countP (fun y => decide (y < x)) = 0 := by
        rw [List.countP_eq_zero]
        intro y hy
        have := h1 y hy
        simp; omega
      rw [if_neg (by simpa using ha), h0]
      cases j with
      | zero => simp at h; subst h; exact ⟨fun h9 => absurd h9 ha, fun h9 => by omega⟩
      | succ j =>
        simp at h
        have := h1 o (List.mem_of_getElem? h)
        exact ⟨fun h9 => by omega, fun h9 => by omega⟩
theorem cn_le (x : Int) (l : List Int) : cn x l ≤ l.length := List.countP_le_length
theorem take_lt {x : Int} {l : List Int} (hs : l.Pairwise (· < ·)) {a : Int} (ha : a ∈ l.take (cn x l)) : a < x := by
  obtain ⟨j, hj⟩ := List.mem_iff_getElem?.1 ha
  rw [List.getElem?_take] at hj
  split at hj
  · exact (cn_pos hs hj).2 (by assumption)
  · cases hj
theorem drop_ge {x : Int} {l : List Int} (hs : l.Pairwise (· < ·)) {a : Int} (ha : a ∈ l.drop (cn x l)) : x ≤ a := by
  obtain ⟨j, hj⟩ := List.mem_iff_getElem?.1 ha
  rw [List.getElem?_drop] at hj
  have := cn_pos hs (x := x) hj
  omega
theorem ins_rise {x : Int} {l : List Int} (hs : l.Pairwise (· < ·)) (hx : x ∉ l) : (l.take (cn x l) ++ x :: l.drop (cn x l)).Pairwise (· < ·) := by
  have hd : ∀ a ∈ l.drop (cn x l), x < a := fun a ha => by
    have h1 := drop_ge hs ha
    have h2 : a ≠ x := fun e => hx (e ▸ List.mem_of_mem_drop ha)
    omega
  rw [List.pairwise_append, List.pairwise_cons]
  refine ⟨hs.sublist (List.take_sublist _ _), ⟨hd, hs.sublist (List.drop_sublist _ _)⟩, fun a ha b hb => ?_⟩
  have h1 := take_lt hs ha
  rcases List.mem_cons.1 hb with rfl | hb
  · exact h1
  · have := hd b hb; omega
theorem ins_mem {x : Int} {l : List Int} (k : Nat) (a : Int) : a ∈ l.take k ++ x :: l.drop k ↔ a = x ∨ a ∈ l := by
  have e : a ∈ l ↔ a ∈ l.take k ∨ a ∈ l.drop k := by rw [← List.mem_append, List.take_append_drop]
  rw [List.mem_append, List.mem_cons, e]
  constructor
  · rintro (h | h | h)
    · exact .inr (.inl h)
    · exact .inl h
    · exact .inr (.inr h)
  · rintro (h | h | h)
    · exact .inr (.inl h)
    · exact .inl h
    · exact .inr (.inr h)
theorem cn_at {x : Int} {l : List Int} (hs : l.Pairwise (· < ·)) (hx : x ∈ l) : l[cn x l]? = some x := by
  obtain ⟨j, hj⟩ := List.mem_iff_getElem?.1 hx
  have h1 := cn_pos hs (x := x) hj
  obtain ⟨hjl, he⟩ := List.getElem?_eq_some_iff.1 hj
  rcases Nat.lt_or_ge (cn x l) j with h | h
  · exfalso
    have h2 : l[cn x l]? = some (l[cn x l]'(by omega)) := List.getElem?_eq_getElem (by omega)
    have h3 := (cn_pos hs (x := x) h2).1 (by
      have := List.pairwise_iff_getElem.1 hs (cn x l) j (by omega) hjl h
      omega)
    omega
  · have : j = cn x l := by omega
    rw [← this]; exact hj
theorem del_rise {l : List Int} (hs : l.Pairwise (· < ·)) (k : Nat) : (l.take k ++ l.drop (k + 1)).Pairwise (· < ·) := by
  rw [← List.eraseIdx_eq_take_drop_succ]
  exact hs.sublist (List.eraseIdx_sublist _ _)
theorem del_mem {x : Int} {l : List Int} (hs : l.Pairwise (· < ·)) (hx : x ∈ l) (a : Int) : a ∈ l.take (cn x l) ++ l.drop (cn x l + 1) ↔ a ∈ l ∧ a ≠ x := by
  rw [← List.eraseIdx_eq_take_drop_succ, List.mem_eraseIdx_iff_getElem?]
  have hc := cn_at hs hx
  constructor
  · rintro ⟨i, hne, hi⟩
    refine ⟨List.mem_of_getElem? hi, fun e => ?_⟩
    subst e
    obtain ⟨h1, e1⟩ := List.getElem?_eq_some_iff.1 hi
    obtain ⟨h2, e2⟩ := List.getElem?_eq_some_iff.1 hc
    rcases Nat.lt_trichotomy i (cn a l) with h | h | h
    · have := List.pairwise_iff_getElem.1 hs _ _ h1 h2 h; omega
    · exact hne h
    · have := List.pairwise_iff_getElem.1 hs _ _ h2 h1 h; omega
  · rintro ⟨ha, hne⟩
    obtain ⟨i, hi⟩ := List.mem_iff_getElem?.1 ha
    exact ⟨i, fun e => by subst e; rw [hc] at hi; injection hi with hi; exact hne hi.symm, hi⟩
theorem rise_len {l : List Int} (hs : l.Pairwise (· < ·)) {n : Nat} (hb : ∀ x ∈ l, 0 ≤ x ∧ x < n) : l.length ≤ n := by
  have h := sub_len (m := (List.range n).map fun i : Nat => (i : Int)) (hs.imp fun h => by omega) (fun x hx => by
    obtain ⟨h1, h2⟩ := hb x hx
    exact List.mem_map.2 ⟨x.toNat, List.mem_range.2 (by omega), by omega⟩)
  simpa using h
end Go.Proofs.Ytkpngkdkkcadfaa
