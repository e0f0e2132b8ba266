/- Package buddy for its laws: a buddy as the set of its free frames. -/
import Derived.Test.YtmmjkebhcihjlaaBuq
namespace Go.Proofs.Ytmmjkebhcihjlaa
open Go.RowKit

def cntS (S : Nat → Bool) (a n : Nat) : Nat := (List.range' a n).countP S
theorem cntS_le (S : Nat → Bool) (a n : Nat) : cntS S a n ≤ n := by
  unfold cntS
  have := List.countP_le_length (p := S) (l := List.range' a n)
  rwa [List.length_range'] at this
theorem cntS_split (S : Nat → Bool) (a p q r : Nat) : cntS S a (p + q + r) = cntS S a p + cntS S (a + p) q + cntS S (a + p + q) r := by
  unfold cntS
  rw [← List.range'_append_1 (m := p + q) (n := r), ← List.range'_append_1 (m := p) (n := q), List.countP_append, List.countP_append, Nat.add_assoc a p q]
theorem cntS_congr {S T : Nat → Bool} {a n : Nat} (h : ∀ k, a ≤ k → k < a + n → S k = T k) : cntS S a n = cntS T a n := by
  unfold cntS
  exact List.countP_congr fun k hk => by
    have := List.mem_range'_1.1 hk
    rw [h k this.1 this.2]
theorem cntS_all {S : Nat → Bool} {a n : Nat} (h : ∀ k, a ≤ k → k < a + n → S k = true) : cntS S a n = n := by
  unfold cntS
  have := (List.countP_eq_length (p := S) (l := List.range' a n)).2 fun k hk => by
    have := List.mem_range'_1.1 hk
    exact h k this.1 this.2
  rwa [List.length_range'] at this
theorem cntS_none {S : Nat → Bool} {a n : Nat} (h : ∀ k, a ≤ k → k < a + n → S k = false) : cntS S a n = 0 := by
  unfold cntS
  exact List.countP_eq_zero.2 fun k hk => by
    have := List.mem_range'_1.1 hk
    rw [h k this.1 this.2]; simp
theorem cntS_more {S : Nat → Bool} {a n f o : Nat} (h1 : a ≤ f) (h2 : f + 2 ^ o ≤ a + n) (hs : ∀ k, f ≤ k → k < f + 2 ^ o → S k = false) : cntS (Bud.more S f o) a n = cntS S a n + 2 ^ o := by
  obtain ⟨r, hr⟩ : ∃ r, n = (f - a) + 2 ^ o + r := ⟨n - (f - a) - 2 ^ o, by omega⟩
  have e : a + (f - a) = f := by omega
  rw [hr, cntS_split, cntS_split, e]
  have e1 : cntS (Bud.more S f o) a (f - a) = cntS S a (f - a) := cntS_congr fun k k1 k2 => by
    unfold Bud.more
    rw [show decide (f ≤ k) = false by simp; omega]; simp
  have e2 : cntS (Bud.more S f o) f (2 ^ o) = 2 ^ o := cntS_all fun k k1 k2 => Bud.more_iff.2 (.inr ⟨k1, k2⟩)
  have e3 : cntS S f (2 ^ o) = 0 := cntS_none hs
  have e4 : cntS (Bud.more S f o) (f + 2 ^ o) r = cntS S (f + 2 ^ o) r := cntS_congr fun k k1 k2 => by
    unfold Bud.more
    rw [show decide (k < f + 2 ^ o) = false by simp; omega]; simp
  omega
theorem cntS_less {S : Nat → Bool} {a n f o : Nat} (h1 : a ≤ f) (h2 : f + 2 ^ o ≤ a + n) (hs : ∀ k, f ≤ k → k < f + 2 ^ o → S k = true) : cntS (Bud.less S f o) a n + 2 ^ o = cntS S a n := by
  obtain ⟨r, hr⟩ : ∃ r, n = (f - a) + 2 ^ o + r := ⟨n - (f - a) - 2 ^ o, by omega⟩
  have e : a + (f - a) = f := by omega
  rw [hr, cntS_split, cntS_split, e]
  have e1 : cntS (Bud.less S f o) a (f - a) = cntS S a (f - a) := cntS_congr fun k k1 k2 => by
    unfold Bud.less
    rw [show decide (f ≤ k) = false by simp; omega]; simp
  have e2 : cntS S f (2 ^ o) = 2 ^ o := cntS_all hs
  have e3 : cntS (Bud.less S f o) f (2 ^ o) = 0 := cntS_none fun k k1 k2 => by
    unfold Bud.less
    rw [show decide (f ≤ k) = true by simp; omega, show decide (k < f + 2 ^ o) = true by simp; omega]; simp
  have e4 : cntS (Bud.less S f o) (f + 2 ^ o) r = cntS S (f + 2 ^ o) r := cntS_congr fun k k1 k2 => by
    unfold Bud.less
    rw [show decide (k < f + 2 ^ o) = false by simp; omega]; simp
  omega

/-- A buddy in memory: its free frames; B: its blocks. -/
structure BdAt (w : World) (W c fi n : Nat) (S : Nat → Bool) (B : Nat → Prop) : Prop where
  body : ∃ base vs R, Bdy w c base fi ((fi + n : Nat) : Int) ((cntS S fi n : Nat) : Int) vs R (Bud.Mx S) ∧ B = BS c vs
  rng : ∀ k, S k = true → fi ≤ k ∧ k < fi + n
  hi : fi + n ≤ 1048576
  lo : W ≤ c

/-- Behind a call that turns the buddy alone. -/
def BdTo (w w' : World) (W c fi n : Nat) (S' : Nat → Bool) (B : Nat → Prop) : Prop := ∃ B', BdAt w' W c fi n S' B' ∧ Only B w w' ∧ ∀ g, B' g → B g ∨ w.heap.size ≤ g

section
variable {w w' : World} {W c fi n : Nat} {S : Nat → Bool} {B : Nat → Prop}
theorem BdAt.lt (h : BdAt w W c fi n S B) {g : Nat} (hg : B g) : W ≤ g ∧ g < w.heap.size := by
  obtain ⟨base, vs, R, hb, rfl⟩ := h.body
  have h1 := hb.at_.lo
  have h2 := h.lo
  rcases hg with rfl | ⟨o, ho, e⟩
  · exact ⟨h2, hb.at_.blk.lt⟩
  · have := (hb.at_.own o ho).lt g e
    exact ⟨by omega, this.2⟩
theorem BdAt.below (h : BdAt w W c fi n S B) (hb : Below w.heap.size w w') : BdAt w' W c fi n S B := by
  obtain ⟨base, vs, R, hd, rfl⟩ := h.body
  exact ⟨⟨base, vs, R, ⟨hd.at_.below hb, hd.set, Nat.le_trans hd.room hb.size⟩, rfl⟩, h.rng, h.hi, h.lo⟩
theorem BdAt.drewN (h : BdAt w W c fi n S B) (q : Nat) : BdAt (w.drewN q) W c fi n S B := h.below (below_drewN (Below.refl _ _) q)
/-- Other blocks turn. -/
theorem BdAt.apart {T : Nat → Prop} (h : BdAt w W c fi n S B) (ho : Only T w w') (hT : ∀ g, B g → ¬ T g) : BdAt w' W c fi n S B := by
  obtain ⟨base, vs, R, hd, rfl⟩ := h.body
  refine ⟨⟨base, vs, R, ⟨⟨hd.at_.blk.only ho (hT c (.inl rfl)), fun o ho' => own_apart (hd.at_.own o ho') ho fun g hg => hT g (.inr ⟨o, ho', hg⟩), hd.at_.lo, hd.at_.apart⟩, hd.set, Nat.le_trans hd.room ho.size⟩, rfl⟩, h.rng, h.hi, h.lo⟩
theorem BdAt.hRng (h : BdAt w W c fi n S B) : Rng S fi ((fi + n : Nat) : Int) := ⟨by omega, by have := h.hi; omega, fun k hk => by have := h.rng k hk; omega⟩
theorem bInv_of {R : Nat → List Int} (h : BSet (Bud.Mx S) R) : BInv S R := ⟨h.srt, h.mem, fun o ho => by have := h.len ho; omega⟩
theorem BdAt.mx (h : BdAt w W c fi n S B) {f o : Nat} (hm : Bud.Mx S f o) : fi ≤ f ∧ f + 2 ^ o ≤ fi + n ∧ o ≤ 9 := by
  have hp := Bud.pow_pos o
  have h1 := h.rng f (hm.all f (Nat.le_refl _) (by omega))
  have h2 := h.rng (f + 2 ^ o - 1) (hm.all _ (by omega) (by omega))
  exact ⟨h1.1, by omega, hm.le⟩
theorem BdTo.refl (h : BdAt w W c fi n S B) : BdTo w w W c fi n S B := ⟨B, h, Only.refl _ _, fun _ h => .inl h⟩

theorem lnew_bad (x y : Int) (w : World) (h : x < 0 ∨ 1048576 < x ∨ y < 0 ∨ 1048576 - x < y) :
    Calls Try.prog 9 #[.int .i64 x, .int .i64 y] w fun e w' => e = .returned (.tuple #[.pointer none, .int .i64 1]) ∧ w = w' := bnew_bad x y w h

theorem lnew_ok (x n : Nat) (w : World) (hn : n ≤ 1500) (hxn : x + n ≤ 1048576) :
    Calls Try.prog 9 #[.int .i64 x, .int .i64 n] w fun e w' => e = .returned (.tuple #[.pointer (some ⟨w.heap.size, 0, none⟩), .int .i64 0]) ∧ (∃ B, BdAt w' w.heap.size w.heap.size x n (seg x n) B) ∧ Below w.heap.size w w' := by
  refine (bnew_ok x n w (by omega) hn hxn).mono ?_
  rintro e w' ⟨rfl, vs, R, hd, hb⟩
  have e1 : cntS (seg x n) x n = n := cntS_all fun k k1 k2 => seg_iff.2 ⟨k1, k2⟩
  exact ⟨rfl, ⟨_, ⟨_, vs, R, by rw [e1]; exact hd, rfl⟩, fun k hk => seg_iff.1 hk, hxn, Nat.le_refl _⟩, hb⟩

theorem ltake_bad (c : Nat) (x : Int) (w : World) (hx : x < 0 ∨ 10 ≤ x) :
    Calls Try.prog 11 #[.pointer (some ⟨c, 0, none⟩), .int .i64 x] w fun e w' => e = .returned (.tuple #[.int .i64 0, .int .i64 1]) ∧ w = w' := btake_bad c x w hx

theorem ltake_none (h : BdAt w W c fi n S B) {o : Nat} (ho : o < 10) (hno : ∀ f p, o ≤ p → ¬ Bud.Mx S f p) :
    Calls Try.prog 11 #[.pointer (some ⟨c, 0, none⟩), .int .i64 o] w fun e w' => e = .returned (.tuple #[.int .i64 0, .int .i64 10]) ∧ w = w' := by
  obtain ⟨base, vs, R, hd, rfl⟩ := h.body
  exact btake_none c base o _ _ _ vs R _ w hd ho fun f p _ hp => hno f p hp

/-- What Take finds. -/
structure Least (S : Nat → Bool) (o f k : Nat) : Prop where
  ok : o ≤ k
  min : ∀ g p, o ≤ p → p < k → ¬ Bud.Mx S g p
  mx : Bud.Mx S f k
  least : ∀ g, Bud.Mx S g k → f ≤ g

theorem exists_min (P : Nat → Prop) : ∀ n, P n → ∃ m, P m ∧ ∀ j, j < m → ¬ P j := by
  intro n
  induction n using Nat.strongRecOn with
  | _ n ih =>
    intro h
    by_cases hm : ∃ j, j < n ∧ P j
    · obtain ⟨j, hj, hp⟩ := hm
      exact ih j hj hp
    · exact ⟨n, h, fun j hj hp => hm ⟨j, hj, hp⟩⟩

theorem least_or (S : Nat → Bool) (o : Nat) : (∀ f p, o ≤ p → ¬ Bud.Mx S f p) ∨ ∃ f k, Least S o f k := by
  by_cases h : ∃ p, o ≤ p ∧ ∃ f, Bud.Mx S f p
  · obtain ⟨p, hp⟩ := h
    obtain ⟨k, ⟨hk, f0, hf0⟩, hmin⟩ := exists_min (fun p => o ≤ p ∧ ∃ f, Bud.Mx S f p) p hp
    obtain ⟨f, hf, hl⟩ := exists_min (fun f => Bud.Mx S f k) f0 hf0
    refine .inr ⟨f, k, hk, fun g q h1 h2 hm => hmin q h2 ⟨h1, g, hm⟩, hf, fun g hg => ?_⟩
    rcases Nat.lt_or_ge g f with h3 | h3
    · exact absurd hg (hl g h3)
    · exact h3
  · exact .inl fun f p hp hm => h ⟨p, hp, f, hm⟩

theorem ltake_some (h : BdAt w W c fi n S B) {o f k : Nat} (hl : Least S o f k) :
    Calls Try.prog 11 #[.pointer (some ⟨c, 0, none⟩), .int .i64 o] w fun e w' => e = .returned (.tuple #[.int .i64 f, .int .i64 0]) ∧ BdTo w w' W c fi n (Bud.less S f o) B := by
  obtain ⟨base, vs, R, hd, rfl⟩ := h.body
  obtain ⟨m1, m2, m3⟩ := h.mx hl.mx
  have hh := h.hi
  have hcl := cntS_le S fi n
  have hko := Bud.pow_le hl.ok
  refine (btake_some c base o k f _ _ _ vs R _ w hd hl.ok (by omega) hl.min hl.mx hl.least (by omega) ⟨by omega, by omega⟩).mono ?_
  rintro e w' ⟨rfl, v1, R1, hb1, hm1, ho1⟩
  have ec := cntS_less (S := S) (a := fi) (n := n) (f := f) (o := o) m1 (by omega) (fun z z1 z2 => hl.mx.all z z1 (by omega))
  have hee : ((cntS S fi n : Nat) : Int) - 2 ^ o = ((cntS (Bud.less S f o) fi n : Nat) : Int) := by
    rw [← ec, show (2 : Int) ^ o = ((2 ^ o : Nat) : Int) by simp]
    omega
  rw [hee] at hb1
  refine ⟨rfl, _, ⟨⟨base, v1, R1, ⟨hb1.at_, hb1.set.congr fun g p => ?_, hb1.room⟩, rfl⟩, fun z hz => h.rng z (Bud.less_iff.1 hz).1, h.hi, h.lo⟩, ho1, ?_⟩
  · exact Bud.take_mx hl.mx hl.ok g p
  · rintro g (rfl | ⟨o', ho', e⟩)
    · exact .inl (.inl rfl)
    · rcases hm1 o' g ho' e with h1 | ⟨p, hp, h1⟩
      · exact .inr h1
      · exact .inl (.inr ⟨p, hp, h1⟩)

theorem lgive_arg (h : BdAt w W c fi n S B) (x : Int) {o : Nat} (ho : o < 10) (hb : ¬ (x.tmod (2 ^ o) = 0 ∧ (fi : Int) ≤ x ∧ x ≤ ((fi + n : Nat) : Int) - 2 ^ o)) :
    Calls Try.prog 13 #[.pointer (some ⟨c, 0, none⟩), .int .i64 x, .int .i64 o] w fun e w' => e = .returned (.int .i64 1) ∧ ∃ q, w' = w.drewN q := by
  obtain ⟨base, vs, R, hd, rfl⟩ := h.body
  exact bgive_arg c base o x _ _ _ vs R w hd.at_ (by omega) (by have := h.hi; omega) ho hb

theorem lgive_arg0 (c : Nat) (x y : Int) (w : World) (hy : y < 0 ∨ 10 ≤ y) :
    Calls Try.prog 13 #[.pointer (some ⟨c, 0, none⟩), .int .i64 x, .int .i64 y] w fun e w' => e = .returned (.int .i64 1) ∧ ∃ q, w' = w.drewN q := bgive_arg0 c x y w hy

theorem pow_int (o : Nat) : (2 : Int) ^ o = ((2 ^ o : Nat) : Int) := by simp

theorem lgive_state (h : BdAt w W c fi n S B) {f o : Nat} (ho : o < 10) (hal : f % 2 ^ o = 0) (h1 : fi ≤ f) (h2 : f + 2 ^ o ≤ fi + n) (hs : ∃ k, f ≤ k ∧ k < f + 2 ^ o ∧ S k = true) :
    Calls Try.prog 13 #[.pointer (some ⟨c, 0, none⟩), .int .i64 f, .int .i64 o] w fun e w' => e = .returned (.int .i64 20) ∧ ∃ q, w' = w.drewN q := by
  obtain ⟨base, vs, R, hd, rfl⟩ := h.body
  exact bgive_state c base o f _ _ _ vs R S w hd.at_ (bInv_of hd.set) h.hRng ho hal (by omega) (by rw [pow_int]; omega) hs

theorem lgive_ok (h : BdAt w W c fi n S B) {f o : Nat} (ho : o < 10) (hal : f % 2 ^ o = 0) (h1 : fi ≤ f) (h2 : f + 2 ^ o ≤ fi + n) (hs : ∀ k, f ≤ k → k < f + 2 ^ o → S k = false) :
    Calls Try.prog 13 #[.pointer (some ⟨c, 0, none⟩), .int .i64 f, .int .i64 o] w fun e w' => e = .returned (.int .i64 0) ∧ BdTo w w' W c fi n (Bud.more S f o) B := by
  obtain ⟨base, vs, R, hd, rfl⟩ := h.body
  have hh := h.hi
  have hcl := cntS_le S fi n
  refine (bgive_ok c base o f _ _ _ vs R S w hd.at_ (bInv_of hd.set) h.hRng ho hal (by omega) (by rw [pow_int]; omega) hs hd ⟨by omega, by omega⟩).mono ?_
  rintro e w' ⟨rfl, v1, R1, hb1, hm1, ho1⟩
  have ec := cntS_more (S := S) (a := fi) (n := n) h1 h2 hs
  have hee : ((cntS S fi n : Nat) : Int) + 2 ^ o = ((cntS (Bud.more S f o) fi n : Nat) : Int) := by rw [ec, pow_int]; omega
  rw [hee] at hb1
  refine ⟨rfl, _, ⟨⟨base, v1, R1, hb1, rfl⟩, fun z hz => ?_, h.hi, h.lo⟩, ho1, ?_⟩
  · rcases Bud.more_iff.1 hz with h3 | h3
    · exact h.rng z h3
    · omega
  · rintro g (rfl | ⟨o', ho', e⟩)
    · exact .inl (.inl rfl)
    · rcases hm1 o' g ho' e with h1 | ⟨p, hp, h1⟩
      · exact .inr h1
      · exact .inl (.inr ⟨p, hp, h1⟩)

theorem lhas (h : BdAt w W c fi n S B) (x : Int) :
    Calls Try.prog 17 #[.pointer (some ⟨c, 0, none⟩), .int .i64 x] w fun e w' => e = .returned (.bool (hasF S x)) ∧ ∃ q, w' = w.drewN q := by
  obtain ⟨base, vs, R, hd, rfl⟩ := h.body
  exact bhas_any c base _ _ _ x vs R S w hd.at_ (bInv_of hd.set) h.hRng

theorem lfree (h : BdAt w W c fi n S B) :
    Calls Try.prog 15 #[.pointer (some ⟨c, 0, none⟩)] w fun e w' => e = .returned (.int .i64 ((cntS S fi n : Nat) : Int)) ∧ w = w' := by
  obtain ⟨base, vs, R, hd, rfl⟩ := h.body
  exact bfree_any c base _ _ _ vs R w hd.at_

theorem lruns (h : BdAt w W c fi n S B) :
    Calls Try.prog 20 #[.pointer (some ⟨c, 0, none⟩)] w fun e w' => ∃ (v : Value) (ts : List (Nat × Nat)), e = .returned v ∧ RunsOf S ts ∧ w'.ownsRow w.heap.size 34 2 v ts.length (ts.flatMap pv) ∧ Below w.heap.size w w' := by
  obtain ⟨base, vs, R, hd, rfl⟩ := h.body
  exact bruns_any c base _ _ _ vs R S w hd

/-- A slice of another's stays. -/
theorem BdTo.own {S' : Nat → Bool} (h : BdTo w w' W c fi n S' B) {base size m : Nat} {e : TypeId} {v : Value} {xs : List Value} (ho : w.ownsRow base e size v m xs) (hv : ∀ g, v.ownBlock = some g → ¬ B g) : w'.ownsRow base e size v m xs := by
  obtain ⟨B', _, h2, _⟩ := h
  exact own_apart ho h2 hv
end
end Go.Proofs.Ytmmjkebhcihjlaa
