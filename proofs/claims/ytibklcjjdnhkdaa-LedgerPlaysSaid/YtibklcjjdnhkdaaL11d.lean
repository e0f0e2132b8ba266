/- The plain law of the statement LedgerOne: all entries together are all frames; what Count tells. -/
import Derived.Test.YtibklcjjdnhkdaaL11b
namespace Go.Proofs.Ytibklcjjdnhkdaa
open Go.RowKit Mf

theorem count_f (b mb N : Nat) (n : Int) (f : Int → Option (Int × Int)) (s p : Int) (w : World) (h : LedAt w b mb N n f) (hn : 0 ≤ n ∧ n ≤ 1048576) (hI : Inv n f) :
    Calls Try.prog 17 #[.pointer (some ⟨b, 0, none⟩), .int .i64 s, .int .i64 p] w fun e w' => e = .returned (.int .i64 (cntF n f s p : Nat)) ∧ Below w.heap.size w w' := by
  obtain ⟨ks, hk1, hk2, hcnt⟩ := count_any b mb N n f s p w h hn hI.1
  rw [cntS_eq hn.1 hk1 hk2 hI.1] at hcnt
  exact hcnt

/-- How many frames have a state below m. -/
def totS (n : Int) (f : Int → Option (Int × Int)) (m : Int) : Nat := ((frs n).filter fun i => decide ((ent f i).1 < m)).length

theorem totS_zero {n : Int} {f : Int → Option (Int × Int)} (h : ∀ k, 0 ≤ (ent f k).1) : totS n f 0 = 0 := by
  unfold totS
  rw [List.length_eq_zero_iff, List.filter_eq_nil_iff]
  intro k _; have := h k; simp; omega

theorem totS_succ (n : Int) (f : Int → Option (Int × Int)) (m : Int) : totS n f (m + 1) = totS n f m + cntF n f m (-1) := by
  unfold totS cntF
  induction frs n with
  | nil => rfl
  | cons x xs ih =>
    simp only [List.filter_cons]
    by_cases h1 : (ent f x).1 < m
    · rw [if_pos (by simp; omega), if_pos (by simpa using h1), if_neg (by simp [hasS]; omega)]
      simp only [List.length_cons]; omega
    · by_cases h2 : (ent f x).1 = m
      · rw [if_pos (by simp; omega), if_neg (by simpa using h1), if_pos (by simp [hasS, h2])]
        simp only [List.length_cons]; omega
      · rw [if_neg (by simp; omega), if_neg (by simpa using h1), if_neg (by simp [hasS]; omega)]
        exact ih

theorem totS_all {n : Int} (hn : 0 ≤ n) {f : Int → Option (Int × Int)} (h : ∀ k, (ent f k).1 ≤ 6) : (totS n f 7 : Int) = n := by
  unfold totS
  rw [List.filter_eq_self.2 (fun k _ => by have := h k; simp; omega)]
  exact frs_len hn

theorem totS_le {n : Int} (hn : 0 ≤ n) (f : Int → Option (Int × Int)) (m : Int) : (totS n f m : Int) ≤ n := by
  have h := List.length_filter_le (fun i => decide ((ent f i).1 < m)) (frs n)
  have := frs_len hn
  unfold totS; omega

end Go.Proofs.Ytibklcjjdnhkdaa
