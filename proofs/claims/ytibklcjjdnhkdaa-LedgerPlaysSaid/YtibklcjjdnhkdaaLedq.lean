/- The reference's next is the program's May and move: the plain law. -/
import Derived.Test.YtibklcjjdnhkdaaLedr
namespace Go.Proofs.Ytibklcjjdnhkdaa
open Go.RowKit Mf

theorem rowR_none {act : Int} (h : act < 1 ∨ 10 < act) : rowR act = ⟨0, 0, false, false, false⟩ := by
  unfold rowR
  rw [if_neg (by omega), if_neg (by omega), if_neg (by omega), if_neg (by omega), if_neg (by omega), if_neg (by omega), if_neg (by omega), if_neg (by omega), if_neg (by omega)]

/-- The verdict on the party: what both sides ask. -/
theorem nextR_eq {n frame act p : Int} {x : Int × Int} (hx : Good x) : nextR n x frame act p = (if mayS n x frame act p = 0 then nxt n x frame act p else (0, 0), mayS n x frame act p) := by
  by_cases hf : frame < 0 ∨ n ≤ frame
  · have h1 : mayS n x frame act p = 2 := by unfold mayS; rw [if_pos hf]
    unfold nextR
    rw [if_pos hf, h1, if_neg (by decide)]
  · by_cases ha : act < 1 ∨ 10 < act
    · have h1 : mayS n x frame act p = 1 := by unfold mayS; rw [if_neg hf, if_pos ha]
      have h2 : elsR ⟨0, 0, false, false, false⟩ x p = ((0, 0), 1) := if_pos (.inl rfl)
      unfold nextR
      rw [if_neg hf, if_neg (by omega), rowR_none ha, h2, h1]
      rfl
    · obtain ⟨s, q⟩ := x
      obtain ⟨x1, x2, x3⟩ := hx
      simp only at x1 x2 x3
      have e1 : nextR n (s, q) frame act p = if act = 9 then ((0, 0), relR (s, q) p) else elsR (rowR act) (s, q) p := by unfold nextR; rw [if_neg hf]
      have e2 : mayS n (s, q) frame act p = (if act = 9 ∧ (fnd act s).2 = false then 20 else
        if ((fnd act s).1.of_ || (fnd act s).1.for_) = true then
          (if p < 1 ∨ 255 < p then 1 else if (fnd act s).2 = false then 20 else if (fnd act s).1.of_ = true ∧ q ≠ p then 21 else 0)
        else (if p ≠ 0 then 1 else if (fnd act s).2 = false then 20 else 0)) := by unfold mayS; rw [if_neg hf, if_neg ha]
      unfold nxt
      rw [e1, e2]
      have hact : act = 1 ∨ act = 2 ∨ act = 3 ∨ act = 4 ∨ act = 5 ∨ act = 6 ∨ act = 7 ∨ act = 8 ∨ act = 9 ∨ act = 10 := by omega
      have hs : s = 0 ∨ s = 1 ∨ s = 2 ∨ s = 3 ∨ s = 4 ∨ s = 5 ∨ s = 6 := by omega
      clear hf ha e1 e2 x1 x2
      have hp : (p = 0 ∧ ptyB p = false ∧ (p < 1 ∨ 255 < p)) ∨ (p ≠ 0 ∧ ptyB p = false ∧ (p < 1 ∨ 255 < p)) ∨ (p ≠ 0 ∧ ptyB p = true ∧ ¬ (p < 1 ∨ 255 < p)) := by
        unfold ptyB
        by_cases h0 : p = 0
        · subst h0; left; exact ⟨rfl, rfl, by omega⟩
        · right
          by_cases h1 : p < 1 ∨ 255 < p
          · left; exact ⟨h0, by simp; omega, h1⟩
          · right; exact ⟨h0, by simp; omega, h1⟩
      rcases hp with ⟨rfl, p2, p3⟩ | ⟨p1, p2, p3⟩ | ⟨p1, p2, p3⟩
      · rcases hact with rfl | rfl | rfl | rfl | rfl | rfl | rfl | rfl | rfl | rfl <;> rcases hs with rfl | rfl | rfl | rfl | rfl | rfl | rfl <;> simp at x3 <;> simp [elsR, relR, rowR, fnd, mvs, nowS, p2, x3]
      · rcases hact with rfl | rfl | rfl | rfl | rfl | rfl | rfl | rfl | rfl | rfl <;> rcases hs with rfl | rfl | rfl | rfl | rfl | rfl | rfl <;> simp at x3 <;> simp [elsR, relR, rowR, fnd, mvs, p1, p2, p3]
      · by_cases hq : q = p
        · subst hq
          rcases hact with rfl | rfl | rfl | rfl | rfl | rfl | rfl | rfl | rfl | rfl <;> rcases hs with rfl | rfl | rfl | rfl | rfl | rfl | rfl <;> simp at x3 <;> simp [elsR, relR, rowR, fnd, mvs, nowS, p1, p2, p3, x3] <;> omega
        · rcases hact with rfl | rfl | rfl | rfl | rfl | rfl | rfl | rfl | rfl | rfl <;> rcases hs with rfl | rfl | rfl | rfl | rfl | rfl | rfl <;> simp at x3 <;> simp [elsR, relR, rowR, fnd, mvs, nowS, p1, p2, p3, hq, x3]
end Go.Proofs.Ytibklcjjdnhkdaa
