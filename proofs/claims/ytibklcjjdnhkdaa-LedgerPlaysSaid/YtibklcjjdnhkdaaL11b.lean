/- The plain law of the statement LedgerOwners: what one move does to one entry. -/
import Derived.Test.YtibklcjjdnhkdaaLedt
namespace Go.Proofs.Ytibklcjjdnhkdaa
open Go.RowKit Mf

/-- An entry as a ledger has it: a known state, and a party just where it is a party's. -/
def Good (x : Int × Int) : Prop := 0 ≤ x.1 ∧ x.1 ≤ 6 ∧ ((x.1 = 3 ∨ x.1 = 4 ∨ x.1 = 5) ↔ x.2 ≠ 0)

/-- The entry behind a move. -/
def nxt (n : Int) (x : Int × Int) (k act p : Int) : Int × Int := if mayS n x k act p = 0 then (if (nowS x act p).1 = 0 then (0, 0) else nowS x act p) else x

theorem ent_aft' (n : Int) (f : Int → Option (Int × Int)) (k act p : Int) : ent (aftS n f k act p) k = nxt n (ent f k) k act p := by
  unfold nxt aftS
  by_cases h : mayS n (ent f k) k act p = 0
  · rw [if_pos h, if_pos h]
    unfold putS
    show ((if k = k then _ else _ : Option (Int × Int))).getD (0, 0) = _
    rw [if_pos rfl]
    by_cases h0 : (nowS (ent f k) act p).1 = 0
    · rw [if_pos h0, if_pos h0]; rfl
    · rw [if_neg h0, if_neg h0]; rfl
  · rw [if_neg h, if_neg h]

theorem ent_other {n : Int} {f : Int → Option (Int × Int)} {k act p j : Int} (hj : j ≠ k) : ent (aftS n f k act p) j = ent f j := by
  have e : aftS n f k act p j = f j := by
    unfold aftS
    by_cases h : mayS n (ent f k) k act p = 0
    · rw [if_pos h]; unfold putS; rw [if_neg hj]
    · rw [if_neg h]
  unfold ent
  rw [e]

/-- What a move that there is says of the entry. -/
theorem may_says {n : Int} {s q k act p : Int} (h : mayS n (s, q) k act p = 0) : (1 ≤ act ∧ act ≤ 10) ∧ (fnd act s).2 = true ∧ (if ((fnd act s).1.of_ || (fnd act s).1.for_) = true then 1 ≤ p ∧ p ≤ 255 else p = 0) ∧ ((fnd act s).1.of_ = true → q = p) := by
  have h0 := may0 h
  refine ⟨h0.2, ?_⟩
  unfold mayS at h
  rw [if_neg (by omega), if_neg (by omega)] at h
  by_cases h1 : act = 9 ∧ (fnd act s).2 = false
  · rw [if_pos h1] at h; cases h
  · rw [if_neg h1] at h
    by_cases h2 : ((fnd act s).1.of_ || (fnd act s).1.for_) = true
    · rw [if_pos h2] at h ⊢
      by_cases h3 : p < 1 ∨ 255 < p
      · rw [if_pos h3] at h; cases h
      · rw [if_neg h3] at h
        by_cases h4 : (fnd act s).2 = false
        · rw [if_pos h4] at h; cases h
        · rw [if_neg h4] at h
          by_cases h5 : (fnd act s).1.of_ = true ∧ q ≠ p
          · rw [if_pos h5] at h; cases h
          · refine ⟨by simpa using h4, by omega, fun h6 => ?_⟩
            by_cases h7 : q = p
            · exact h7
            · exact absurd ⟨h6, h7⟩ h5
    · rw [if_neg h2] at h ⊢
      by_cases h3 : p ≠ 0
      · rw [if_pos h3] at h; cases h
      · rw [if_neg h3] at h
        by_cases h4 : (fnd act s).2 = false
        · rw [if_pos h4] at h; cases h
        · refine ⟨by simpa using h4, by omega, fun h6 => ?_⟩
          rw [h6] at h2; simp at h2

/-- One move that there is. -/
theorem owners {n k act p : Int} {x : Int × Int} (hx : Good x) (h : mayS n x k act p = 0) :
    Good (nxt n x k act p) ∧ (x.1 = 4 ∨ x.1 = 5 → x.2 = p) ∧ (x.1 = 4 ∨ x.1 = 5 → (nxt n x k act p).1 = 4 ∨ (nxt n x k act p).1 = 5 → (nxt n x k act p).2 = x.2) ∧ (x.1 = 3 → (nxt n x k act p).1 = 2) ∧ nxt n x k act p ≠ x := by
  obtain ⟨s, q⟩ := x
  obtain ⟨⟨a1, a2⟩, h1, h2, h3⟩ := may_says h
  have hn : nxt n (s, q) k act p = if (nowS (s, q) act p).1 = 0 then (0, 0) else nowS (s, q) act p := if_pos h
  rw [hn]
  clear hn h
  obtain ⟨x1, x2, x3⟩ := hx
  simp only at x1 x2 x3
  have hact : act = 1 ∨ act = 2 ∨ act = 3 ∨ act = 4 ∨ act = 5 ∨ act = 6 ∨ act = 7 ∨ act = 8 ∨ act = 9 ∨ act = 10 := by omega
  have hs : s = 0 ∨ s = 1 ∨ s = 2 ∨ s = 3 ∨ s = 4 ∨ s = 5 ∨ s = 6 := by omega
  rcases hact with rfl | rfl | rfl | rfl | rfl | rfl | rfl | rfl | rfl | rfl <;> rcases hs with rfl | rfl | rfl | rfl | rfl | rfl | rfl <;> simp [fnd, mvs] at h1 h2 h3 x3 <;> simp [Good, nowS, fnd, mvs] <;> omega

end Go.Proofs.Ytibklcjjdnhkdaa
