/- Greatest runs of a small set, by a test; those that the laws' told asks for. -/
import Derived.Test.YtmmjkebhcihjlaaBuk
namespace Go.Proofs.Ytmmjkebhcihjlaa
open Go.RowKit

def allB (S : Nat → Bool) (f o : Nat) : Bool := (List.range' f (2 ^ o)).all S
theorem allB_iff {S : Nat → Bool} {f o : Nat} : allB S f o = true ↔ Bud.All S f o := by
  unfold allB Bud.All
  rw [List.all_eq_true]
  exact ⟨fun h k k1 k2 => h k (List.mem_range'_1.2 ⟨k1, k2⟩), fun h k hk => h k (List.mem_range'_1.1 hk).1 (List.mem_range'_1.1 hk).2⟩
def mxB (S : Nat → Bool) (f o : Nat) : Bool := f % 2 ^ o == 0 && allB S f o && decide (o ≤ 9) && (o == 9 || !(allB S (Bud.up f o) (o + 1)))
theorem mxB_iff {S : Nat → Bool} {f o : Nat} : mxB S f o = true ↔ Bud.Mx S f o := by
  unfold mxB
  rw [Bool.and_eq_true, Bool.and_eq_true, Bool.and_eq_true, Bool.or_eq_true, beq_iff_eq, decide_eq_true_eq, allB_iff, beq_iff_eq, Bool.not_eq_true']
  constructor
  · rintro ⟨⟨⟨h1, h2⟩, h3⟩, h4⟩
    exact ⟨h1, h2, h3, fun h5 h6 => by
      rcases h4 with h4 | h4
      · omega
      · rw [allB_iff.2 h6] at h4; cases h4⟩
  · intro h
    refine ⟨⟨⟨h.al, h.all⟩, h.le⟩, ?_⟩
    by_cases h9 : o = 9
    · exact .inl h9
    · right
      cases h5 : allB S (Bud.up f o) (o + 1)
      · rfl
      · exact absurd (allB_iff.1 h5) (h.top (by have := h.le; omega))

theorem runs_check {S : Nat → Bool} {N : Nat} {ts : List (Nat × Nat)} (hS : ∀ k, S k = true → k < N) (h1 : ts.Pairwise (fun a b => a.1 < b.1)) (h2 : (List.range N).all (fun f => (List.range 10).all fun o => mxB S f o == ts.contains (f, o)) = true) (h3 : ts.all (fun x => decide (x.1 < N) && decide (x.2 < 10)) = true) : RunsOf S ts := by
  refine ⟨h1, fun f o => ?_⟩
  have key : ∀ f o, f < N → o < 10 → ((f, o) ∈ ts ↔ Bud.Mx S f o) := fun f o hf ho => by
    rw [List.all_eq_true] at h2
    have h4 := h2 f (List.mem_range.2 hf)
    rw [List.all_eq_true] at h4
    have h5 := h4 o (List.mem_range.2 ho)
    rw [beq_iff_eq] at h5
    rw [← mxB_iff, h5, List.contains_iff_mem]
  constructor
  · intro hm
    rw [List.all_eq_true] at h3
    have := h3 _ hm
    rw [Bool.and_eq_true, decide_eq_true_eq, decide_eq_true_eq] at this
    exact (key f o this.1 this.2).1 hm
  · intro hm
    exact (key f o (hS f (hm.all f (Nat.le_refl _) (by have := Bud.pow_pos o; omega))) (by have := hm.le; omega)).2 hm

theorem RunsOf.least {S : Nat → Bool} {ts : List (Nat × Nat)} (h : RunsOf S ts) {o f k : Nat} (hm : (f, k) ∈ ts) (hk : o ≤ k) (ht : ts.all (fun x => !(decide (o ≤ x.2) && decide (x.2 < k)) && !(x.2 == k && decide (x.1 < f))) = true) : Least S o f k := by
  rw [List.all_eq_true] at ht
  refine ⟨hk, fun g p h1 h2 hg => ?_, (h.2 f k).1 hm, fun g hg => ?_⟩
  · have := ht _ ((h.2 g p).2 hg)
    rw [Bool.and_eq_true, show decide (o ≤ p) = true by simp; exact h1, show decide (p < k) = true by simp; exact h2] at this
    cases this.1
  · have := ht _ ((h.2 g k).2 hg)
    rw [Bool.and_eq_true] at this
    apply Classical.byContradiction
    intro hn
    rw [show decide (g < f) = true by simp; omega] at this
    have h9 := this.2
    simp at h9

theorem RunsOf.none {S : Nat → Bool} {ts : List (Nat × Nat)} (h : RunsOf S ts) {o : Nat} (ht : ts.all (fun x => decide (x.2 < o)) = true) (f p : Nat) (hp : o ≤ p) : ¬ Bud.Mx S f p := fun hm => by
  rw [List.all_eq_true] at ht
  have := ht _ ((h.2 f p).2 hm)
  rw [decide_eq_true_eq] at this
  have e : p < o := this
  omega

def T0 : Nat → Bool := seg 2 7
def T1 : Nat → Bool := Bud.less T0 8 0
def T2 : Nat → Bool := Bud.less T1 2 0
def T3 : Nat → Bool := Bud.more T2 8 0
theorem T0_lt : ∀ k, T0 k = true → k < 9 := fun _ hk => (seg_iff.1 hk).2
theorem T1_lt : ∀ k, T1 k = true → k < 9 := fun k hk => T0_lt k (Bud.less_iff.1 hk).1
theorem T2_lt : ∀ k, T2 k = true → k < 9 := fun k hk => T1_lt k (Bud.less_iff.1 hk).1
theorem runsT0 : RunsOf T0 [(2, 1), (4, 2), (8, 0)] := runs_check T0_lt (by decide) (by decide +kernel) (by decide)
theorem runsT1 : RunsOf T1 [(2, 1), (4, 2)] := runs_check T1_lt (by decide) (by decide +kernel) (by decide)
theorem runsT2 : RunsOf T2 [(3, 0), (4, 2)] := runs_check T2_lt (by decide) (by decide +kernel) (by decide)
theorem leastT0 : Least T0 0 8 0 := runsT0.least (by decide) (by decide) (by decide)
theorem leastT1 : Least T1 0 2 1 := runsT1.least (by decide) (by decide) (by decide)
theorem noneT2 (f p : Nat) (hp : 3 ≤ p) : ¬ Bud.Mx T2 f p := runsT2.none (by decide) f p hp
theorem cntT2 : cntS T2 2 7 = 5 := by decide +kernel
theorem T2_8 : ∀ k, 8 ≤ k → k < 8 + 2 ^ 0 → T2 k = false := fun k h1 h2 => by
  have : k = 8 := by simp at h2; omega
  subst this; decide +kernel
theorem T3_8 : T3 8 = true := by decide +kernel
theorem hasT3_2 : hasF T3 2 = false := by decide +kernel
theorem hasT3_3 : hasF T3 3 = true := by decide +kernel
end Go.Proofs.Ytmmjkebhcihjlaa
