/- A list of structs as the list of its cells. -/
import Derived.Test.YtkpngkdkkcadfaaBuilt
namespace Go.Proofs.Ytkpngkdkkcadfaa
open Go.RowKit
section
variable {α : Type} {f : α → List Value} {s : Nat}

theorem flat_len (hf : ∀ x, (f x).length = s) (ps : List α) : (ps.flatMap f).length = ps.length * s := by
  induction ps with
  | nil => simp
  | cons a as ih => rw [List.flatMap_cons, List.length_append, ih, hf, List.length_cons, Nat.succ_mul, Nat.add_comm]

theorem flat_get (hf : ∀ x, (f x).length = s) : ∀ (ps : List α) (i q : Nat) (x : α), ps[i]? = some x → q < s → (ps.flatMap f)[i * s + q]? = (f x)[q]?
  | [], i, q, x, h, _ => by simp at h
  | a :: as, 0, q, x, h, hq => by
    simp at h
    subst h
    rw [List.flatMap_cons, Nat.zero_mul, Nat.zero_add, List.getElem?_append_left (by rw [hf]; exact hq)]
  | a :: as, i + 1, q, x, h, hq => by
    simp at h
    rw [List.flatMap_cons, List.getElem?_append_right (by rw [hf, Nat.succ_mul]; omega), hf]
    rw [show (i + 1) * s + q - s = i * s + q from by rw [Nat.succ_mul]; omega]
    exact flat_get hf as i q x h hq

theorem flat_set (hf : ∀ x, (f x).length = s) : ∀ (ps : List α) (i q : Nat) (x x' : α) (u : Value), ps[i]? = some x → q < s → f x' = (f x).set q u → (ps.flatMap f).set (i * s + q) u = (ps.set i x').flatMap f
  | [], i, q, x, x', u, h, _, _ => by simp at h
  | a :: as, 0, q, x, x', u, h, hq, he => by
    simp at h
    subst h
    rw [List.flatMap_cons, Nat.zero_mul, Nat.zero_add, List.set_append_left _ _ (by rw [hf]; exact hq), List.set_cons_zero, List.flatMap_cons, he]
  | a :: as, i + 1, q, x, x', u, h, hq, he => by
    simp at h
    rw [List.flatMap_cons, List.set_append_right _ _ (by rw [hf, Nat.succ_mul]; omega), hf, List.set_cons_succ, List.flatMap_cons]
    rw [show (i + 1) * s + q - s = i * s + q from by rw [Nat.succ_mul]; omega]
    rw [flat_set hf as i q x x' u h hq he]

/-- A slice of structs that the call owns: its cells. -/
theorem own_cell (hf : ∀ x, (f x).length = s) {w : World} {base : Nat} {e : TypeId} {g cap n : Nat} {ps : List α} (h : w.ownsRow base e s (.slice (some ⟨g, 0, none⟩) n cap) n (ps.flatMap f)) {i q : Nat} {x : α} (hi : ps[i]? = some x) (hq : q < s) : w.cell? ⟨g, i * s + q, none⟩ = (f x)[q]? := by
  have hl := h.1
  rw [flat_len hf] at hl
  have hil : i < ps.length := (List.getElem?_eq_some_iff.1 hi).1
  have hs : 0 < s := by omega
  have hn : ps.length = n := Nat.eq_of_mul_eq_mul_right hs hl
  have : i * s + q < n * s := by
    have h1 : (i + 1) * s ≤ n * s := Nat.mul_le_mul_right s (by omega)
    rw [Nat.succ_mul] at h1
    omega
  rw [h.cellAt _ this, flat_get hf ps i q x hi hq]

theorem own_stored (hf : ∀ x, (f x).length = s) {w : World} {base : Nat} {e : TypeId} {g cap n : Nat} {ps : List α} (h : w.ownsRow base e s (.slice (some ⟨g, 0, none⟩) n cap) n (ps.flatMap f)) {i q : Nat} {x x' : α} {u : Value} (hi : ps[i]? = some x) (hq : q < s) (he : f x' = (f x).set q u) :
    (w.setCell ⟨g, i * s + q, none⟩ u).ownsRow base e s (.slice (some ⟨g, 0, none⟩) n cap) n ((ps.set i x').flatMap f) := by
  have := h.stored (i * s + q) u
  rw [flat_set hf ps i q x x' u hi hq he] at this
  exact this.1
end
end Go.Proofs.Ytkpngkdkkcadfaa
