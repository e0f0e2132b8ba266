/- Laws of the free runs' list; Take and Give at any arguments. -/
import Derived.Test.YtmmjkebhcihjlaaBto
import Derived.Test.YtmmjkebhcihjlaaOps
import Derived.Test.YtmmjkebhcihjlaaMask
namespace Go.Proofs.Ytmmjkebhcihjlaa
open Go.RowKit

theorem RunsOf.apart {S : Nat → Bool} {ts : List (Nat × Nat)} (h : RunsOf S ts) : ts.Pairwise (fun a b => a.1 + 2 ^ a.2 ≤ b.1) := by
  refine List.Pairwise.imp_of_mem (R := fun a b : Nat × Nat => a.1 < b.1) ?_ h.1
  rintro ⟨f, o⟩ ⟨g, p⟩ ha hb hlt
  have m1 := (h.2 f o).1 ha
  have m2 := (h.2 g p).1 hb
  apply Classical.byContradiction
  intro hn
  have hlt' : f < g := hlt
  have hn' : ¬ f + 2 ^ o ≤ g := hn
  have hp := Bud.pow_pos p
  have := (m1.unique m2 (k := g) (by omega) (by omega) (Nat.le_refl _) (by omega)).1
  omega

def sumR (ts : List (Nat × Nat)) : Nat := (ts.map fun x => 2 ^ x.2).sum

theorem sumR_cnt {S : Nat → Bool} : ∀ (ts : List (Nat × Nat)) (a n : Nat), ts.Pairwise (fun a b => a.1 + 2 ^ a.2 ≤ b.1) → (∀ x ∈ ts, a ≤ x.1 ∧ x.1 + 2 ^ x.2 ≤ a + n) →
    (∀ k, a ≤ k → k < a + n → (S k = true ↔ ∃ x ∈ ts, x.1 ≤ k ∧ k < x.1 + 2 ^ x.2)) → cntS S a n = sumR ts
  | [], a, n, _, _, h3 => by
    rw [cntS_none fun k k1 k2 => by
      cases hs : S k
      · rfl
      · obtain ⟨x, hx, _⟩ := (h3 k k1 k2).1 hs
        cases hx]
    rfl
  | (f, o) :: ts, a, n, h1, h2, h3 => by
    obtain ⟨hp1, hp2⟩ := List.pairwise_cons.1 h1
    obtain ⟨b1, b2⟩ := h2 (f, o) (List.mem_cons_self ..)
    have b1' : a ≤ f := b1
    have b2' : f + 2 ^ o ≤ a + n := b2
    have hpo := Bud.pow_pos o
    obtain ⟨r, hr⟩ : ∃ r, n = (f - a) + 2 ^ o + r := ⟨n - (f - a) - 2 ^ o, by omega⟩
    have e : a + (f - a) = f := by omega
    have ih := sumR_cnt (S := S) ts (f + 2 ^ o) r hp2 (fun x hx => ⟨hp1 x hx, by have := (h2 x (List.mem_cons_of_mem _ hx)).2; omega⟩) (fun k k1 k2 => by
      rw [h3 k (by omega) (by omega)]
      constructor
      · rintro ⟨x, hx, q1, q2⟩
        rcases List.mem_cons.1 hx with rfl | hx
        · have q2' : k < f + 2 ^ o := q2
          omega
        · exact ⟨x, hx, q1, q2⟩
      · rintro ⟨x, hx, q⟩
        exact ⟨x, List.mem_cons_of_mem _ hx, q⟩)
    rw [hr, cntS_split, e, ih, cntS_all (a := f) fun k k1 k2 => (h3 k (by omega) (by omega)).2 ⟨(f, o), List.mem_cons_self .., k1, k2⟩, cntS_none fun k k1 k2 => by
      cases hs : S k
      · rfl
      · obtain ⟨x, hx, q1, q2⟩ := (h3 k (by omega) (by omega)).1 hs
        rcases List.mem_cons.1 hx with rfl | hx
        · have q1' : f ≤ k := q1
          omega
        · have := hp1 x hx
          have this' : f + 2 ^ o ≤ x.1 := this
          omega]
    unfold sumR
    rw [List.map_cons, List.sum_cons, Nat.zero_add]

theorem RunsOf.sum {S : Nat → Bool} {ts : List (Nat × Nat)} {a n : Nat} (h : RunsOf S ts) (hr : ∀ k, S k = true → a ≤ k ∧ k < a + n) : sumR ts = cntS S a n := by
  refine (sumR_cnt ts a n h.apart (fun ⟨f, o⟩ hx => ?_) (fun k k1 k2 => ?_)).symm
  · have hm := (h.2 f o).1 hx
    have hp := Bud.pow_pos o
    have q1 := hr f (hm.all f (Nat.le_refl _) (by omega))
    have q2 := hr (f + 2 ^ o - 1) (hm.all _ (by omega) (by omega))
    exact ⟨q1.1, by show f + 2 ^ o ≤ a + n; omega⟩
  · constructor
    · intro hs
      obtain ⟨o, hm⟩ := Bud.Mx.of hs
      exact ⟨(_, o), (h.2 _ o).2 hm, Bud.fl_le k o, Bud.fl_lt k o⟩
    · rintro ⟨⟨f, o⟩, hx, q1, q2⟩
      exact ((h.2 f o).1 hx).all k q1 q2

theorem RunsOf.no_join {S : Nat → Bool} {ts : List (Nat × Nat)} (h : RunsOf S ts) {g f o : Nat} (h1 : (g, o) ∈ ts) (h2 : (f, o) ∈ ts) (ho : o < 9) (hf : f = g + 2 ^ o) : g % 2 ^ (o + 1) ≠ 0 := fun hc => by
  have m1 := (h.2 g o).1 h1
  have m2 := (h.2 f o).1 h2
  have e : Bud.up g o = g := by
    unfold Bud.up
    exact Bud.al_form hc
  refine m1.top ho ?_
  rw [e]
  intro k k1 k2
  rw [Bud.pow_succ'] at k2
  by_cases hk : k < g + 2 ^ o
  · exact m1.all k k1 hk
  · exact m2.all k (by omega) (by omega)

section
variable {w : World} {W c fi n : Nat} {S : Nat → Bool} {B : Nat → Prop}
theorem ltake_any (h : BdAt w W c fi n S B) (x : Int) :
    Calls Try.prog 11 #[.pointer (some ⟨c, 0, none⟩), .int .i64 x] w fun e w' => ∃ (f r : Int) (S' : Nat → Bool), e = .returned (.tuple #[.int .i64 f, .int .i64 r]) ∧ BdTo w w' W c fi n S' B := by
  by_cases hx : x < 0 ∨ 10 ≤ x
  · refine (ltake_bad c x w hx).mono ?_
    rintro e w' ⟨rfl, rfl⟩
    exact ⟨_, _, S, rfl, BdTo.refl h⟩
  · obtain ⟨o, rfl⟩ : ∃ o : Nat, x = o := ⟨x.toNat, by omega⟩
    rcases least_or S o with hl | ⟨f, k, hl⟩
    · refine (ltake_none h (by omega) hl).mono ?_
      rintro e w' ⟨rfl, rfl⟩
      exact ⟨_, _, S, rfl, BdTo.refl h⟩
    · refine (ltake_some h hl).mono ?_
      rintro e w' ⟨rfl, ht⟩
      exact ⟨_, _, _, rfl, ht⟩

theorem BdTo.draw (h : BdAt w W c fi n S B) (q : Nat) : BdTo w (w.drewN q) W c fi n S B := ⟨B, h.drewN q, (Only.refl _ _).drewN q, fun _ h => .inl h⟩

theorem tmod_nat {x : Int} {t : Nat} (hx : 0 ≤ x) (h : x.tmod (t : Int) = 0) : x.toNat % t = 0 := by
  obtain ⟨k, rfl⟩ : ∃ k : Nat, x = k := ⟨x.toNat, by omega⟩
  rw [Int.toNat_natCast]
  have h' : ((k % t : Nat) : Int) = 0 := by
    rw [Int.tmod_eq_emod_of_nonneg (by omega)] at h
    rw [Int.natCast_emod]; exact h
  omega

/-- Give, whatever it is given: what it answers, and the set behind it. -/
theorem lgive_any (h : BdAt w W c fi n S B) (x y : Int) :
    Calls Try.prog 13 #[.pointer (some ⟨c, 0, none⟩), .int .i64 x, .int .i64 y] w fun e w' => ∃ (r : Int) (S' : Nat → Bool), e = .returned (.int .i64 r) ∧ BdTo w w' W c fi n S' B := by
  by_cases hy : y < 0 ∨ 10 ≤ y
  · refine (lgive_arg0 c x y w hy).mono ?_
    rintro e w' ⟨rfl, q, rfl⟩
    exact ⟨_, S, rfl, BdTo.draw h q⟩
  · obtain ⟨o, rfl⟩ : ∃ o : Nat, y = o := ⟨y.toNat, by omega⟩
    by_cases hb : x.tmod (2 ^ o) = 0 ∧ (fi : Int) ≤ x ∧ x ≤ ((fi + n : Nat) : Int) - 2 ^ o
    · obtain ⟨b1, b2, b3⟩ := hb
      rw [pow_int] at b1 b3
      have b4 := tmod_nat (by omega) b1
      obtain ⟨f, rfl⟩ : ∃ f : Nat, x = f := ⟨x.toNat, by omega⟩
      rw [Int.toNat_natCast] at b4
      by_cases hs : ∃ k, f ≤ k ∧ k < f + 2 ^ o ∧ S k = true
      · refine (lgive_state h (by omega) b4 (by omega) (by omega) hs).mono ?_
        rintro e w' ⟨rfl, q, rfl⟩
        exact ⟨_, S, rfl, BdTo.draw h q⟩
      · refine (lgive_ok h (by omega) b4 (by omega) (by omega) (fun k k1 k2 => ?_)).mono ?_
        · cases hk : S k
          · rfl
          · exact absurd ⟨k, k1, k2, hk⟩ hs
        · rintro e w' ⟨rfl, ht⟩
          exact ⟨_, _, rfl, ht⟩
    · refine (lgive_arg h x (by omega) hb).mono ?_
      rintro e w' ⟨rfl, q, rfl⟩
      exact ⟨_, S, rfl, BdTo.draw h q⟩
end

/-- 'first & 4095', '1 + (n & 2047) % 1200'. -/
theorem args_of (a0 a1 : Int) : ∃ fi z y n : Nat, bits .and .i64 a0 4095 = (fi : Int) ∧ fi < 4096 ∧ bits .and .i64 a1 2047 = (z : Int) ∧ z < 2048 ∧ (z : Int) % 1200 = (y : Int) ∧ (1 : Int) + (y : Int) = (n : Int) ∧ 1 ≤ n ∧ n ≤ 1200 := by
  have h1 : bits .and .i64 a0 4095 = a0 % 4096 := mask64 a0 12 (by omega)
  have h2 : bits .and .i64 a1 2047 = a1 % 2048 := mask64 a1 11 (by omega)
  refine ⟨(a0 % 4096).toNat, (a1 % 2048).toNat, (a1 % 2048).toNat % 1200, 1 + (a1 % 2048).toNat % 1200, by omega, by omega, by omega, by omega, by omega, by omega, by omega, by omega⟩
end Go.Proofs.Ytmmjkebhcihjlaa
