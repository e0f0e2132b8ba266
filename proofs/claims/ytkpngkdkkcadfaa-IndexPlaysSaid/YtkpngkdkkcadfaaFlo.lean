/- Whole numbers as 64-bit floats: sums, products, comparisons and conversions of whole numbers whose size is at most 2^53 are exact. Conditions: none beyond those in each lemma. -/
import Derived.Laws.FloatArith
import Derived.Laws.ComplexArith
import Derived.IntWalk
namespace Go.Proofs.Ytkpngkdkkcadfaa.Flo
open Ieee

/-- The float of a whole number. -/
def F (n : Int) : Nat := double.nearest (n < 0) n.natAbs 0

/-- Minus nought. -/
def NZ : Nat := 9223372036854775808

/-- The significand of a whole number. -/
def K (N : Nat) : Nat := N * 2 ^ 52 / 2 ^ N.log2

theorem log2_spec {N : Nat} (h : 1 ≤ N) : 2 ^ N.log2 ≤ N ∧ N < 2 ^ (N.log2 + 1) :=
  (Nat.log2_eq_iff (by omega)).1 rfl

theorem log2_le53 {N : Nat} (h : N ≤ 2 ^ 53) : N.log2 ≤ 53 := by
  by_cases h0 : N = 0
  · subst h0; simp
  · have hs := log2_spec (N := N) (by omega)
    by_cases hc : N.log2 ≤ 53
    · exact hc
    · have : 2 ^ 54 ≤ 2 ^ N.log2 := Nat.pow_le_pow_right (by omega) (by omega)
      omega

theorem K_mul {N : Nat} (h1 : 1 ≤ N) (h : N ≤ 2 ^ 53) : K N * 2 ^ N.log2 = N * 2 ^ 52 := by
  have hl := log2_le53 h
  have hs := log2_spec h1
  unfold K
  refine Nat.div_mul_cancel ?_
  by_cases hc : N.log2 ≤ 52
  · exact Nat.dvd_trans (Nat.pow_dvd_pow 2 hc) (Nat.dvd_mul_left _ _)
  · have e : N.log2 = 53 := by omega
    rw [e] at hs ⊢
    have : N = 2 ^ 53 := by omega
    rw [this]; exact Nat.dvd_mul_right _ _

theorem K_lo {N : Nat} (h1 : 1 ≤ N) (h : N ≤ 2 ^ 53) : 2 ^ 52 ≤ K N ∧ K N < 2 ^ 53 := by
  have hk := K_mul h1 h
  have hs := log2_spec h1
  have hp : 0 < 2 ^ N.log2 := Nat.two_pow_pos _
  constructor
  · refine Nat.le_of_mul_le_mul_right ?_ hp
    rw [hk, Nat.mul_comm]
    exact Nat.mul_le_mul_right _ hs.1
  · refine Nat.lt_of_mul_lt_mul_right (a := 2 ^ N.log2) ?_
    rw [hk]
    have : N * 2 ^ 52 < 2 ^ (N.log2 + 1) * 2 ^ 52 := Nat.mul_lt_mul_of_pos_right hs.2 (by decide)
    have e : 2 ^ (N.log2 + 1) * 2 ^ 52 = 2 ^ 53 * 2 ^ N.log2 := by
      rw [← Nat.pow_add, ← Nat.pow_add]; congr 1; omega
    omega

theorem log2_scale {m N c d : Nat} (h1 : 1 ≤ N) (h : m * 2 ^ c = N * 2 ^ d) : m.log2 + c = N.log2 + d := by
  have hm : 1 ≤ m := by
    rcases Nat.eq_zero_or_pos m with h0 | h0
    · subst h0
      have : 0 < N * 2 ^ d := Nat.mul_pos h1 (Nat.two_pow_pos _)
      omega
    · exact h0
  have a := log2_spec hm
  have b := log2_spec h1
  have c1 : 2 ^ (m.log2 + c) < 2 ^ (N.log2 + d + 1) := by
    have e1 : 2 ^ (m.log2 + c) ≤ m * 2 ^ c := by rw [Nat.pow_add]; exact Nat.mul_le_mul_right _ a.1
    have e2 : N * 2 ^ d < 2 ^ (N.log2 + d + 1) := by
      rw [show N.log2 + d + 1 = (N.log2 + 1) + d from by omega, Nat.pow_add]
      exact Nat.mul_lt_mul_of_pos_right b.2 (Nat.two_pow_pos _)
    omega
  have c2 : 2 ^ (N.log2 + d) < 2 ^ (m.log2 + c + 1) := by
    have e1 : 2 ^ (N.log2 + d) ≤ N * 2 ^ d := by rw [Nat.pow_add]; exact Nat.mul_le_mul_right _ b.1
    have e2 : m * 2 ^ c < 2 ^ (m.log2 + c + 1) := by
      rw [show m.log2 + c + 1 = (m.log2 + 1) + c from by omega, Nat.pow_add]
      exact Nat.mul_lt_mul_of_pos_right a.2 (Nat.two_pow_pos _)
    omega
  have d1 := (Nat.pow_lt_pow_iff_right (a := 2) (by omega)).1 c1
  have d2 := (Nat.pow_lt_pow_iff_right (a := 2) (by omega)).1 c2
  omega

theorem cut_exact (way : Toward) (s : Bool) (q t : Nat) : way.cut s (q * 2 ^ t) t = q := by
  by_cases hq : q = 0
  · subst hq
    unfold Toward.cut
    cases way <;> simp
  · have hl : (q * 2 ^ t).log2 + 0 = q.log2 + t := log2_scale (c := 0) (by omega) (by simp)
    unfold Toward.cut
    have hm : min t ((q * 2 ^ t).log2 + 2) = t := by omega
    simp only [hm, Nat.one_shiftLeft]
    have hp : 0 < 2 ^ t := Nat.two_pow_pos _
    rw [Nat.mul_mod_left, Nat.mul_div_cancel _ hp]
    cases way <;> simp

/-- The rung of a whole number. -/
def rung (N : Nat) : Nat := (N.log2 + 1022) * 2 ^ 52 + K N

theorem leastPlace_eq : double.leastPlace = -1074 := by decide +kernel
theorem binade_eq : double.binade = 2 ^ 52 := by decide +kernel
theorem infRung_eq : double.infRung = 2047 * 2 ^ 52 := by decide +kernel
theorem signWeight_eq : double.signWeight = 2 ^ 63 := by decide +kernel

theorem nearest_val (s : Bool) {m N c d : Nat} (h1 : 1 ≤ N) (h : N ≤ 2 ^ 53) (e : m * 2 ^ c = N * 2 ^ d) (p : Int) (hp : p = (c : Int) - d) :
    double.nearest s m p = double.word s (rung N) := by
  have hlog := log2_scale h1 e
  have hl := log2_le53 h
  have hk := K_mul h1 h
  have hb := K_lo h1 h
  have hm : m ≠ 0 := by
    intro h0; subst h0
    have : 0 < N * 2 ^ d := Nat.mul_pos h1 (Nat.two_pow_pos _)
    omega
  have hf : double.fractionBits = 52 := rfl
  unfold Format.nearest
  rw [if_neg hm]
  simp only [leastPlace_eq, binade_eq, infRung_eq, hf]
  have hlast : max (p + (m.log2 : Int) - (52 : Nat)) (-1074) = (N.log2 : Int) - 52 := by omega
  rw [hlast]
  have hkept : Toward.even.cut s (m <<< (p - ((N.log2 : Int) - 52)).toNat) (((N.log2 : Int) - 52) - p).toNat = K N := by
    rw [Nat.shiftLeft_eq]
    by_cases hc : p ≥ (N.log2 : Int) - 52
    · obtain ⟨u, hu⟩ : ∃ u : Nat, (p - ((N.log2 : Int) - 52)).toNat = u := ⟨_, rfl⟩
      have hz : (((N.log2 : Int) - 52) - p).toNat = 0 := by omega
      have he : u + (d + N.log2) = c + 52 := by omega
      rw [hu, hz]
      have : m * 2 ^ u = K N := by
        refine Nat.eq_of_mul_eq_mul_right (Nat.two_pow_pos (d + N.log2)) ?_
        rw [Nat.mul_assoc, ← Nat.pow_add, he, Nat.pow_add, ← Nat.mul_assoc, e, Nat.pow_add, Nat.mul_comm (2 ^ d), ← Nat.mul_assoc, hk]
        simp only [Nat.mul_comm, Nat.mul_left_comm, Nat.mul_assoc]
      rw [this]
      have := cut_exact .even s (K N) 0
      simpa using this
    · obtain ⟨t, ht⟩ : ∃ t : Nat, (((N.log2 : Int) - 52) - p).toNat = t := ⟨_, rfl⟩
      have hz : (p - ((N.log2 : Int) - 52)).toNat = 0 := by omega
      have he : t + (c + 52) = N.log2 + d := by omega
      rw [ht, hz]
      have : m = K N * 2 ^ t := by
        refine Nat.eq_of_mul_eq_mul_right (Nat.two_pow_pos (c + 52)) ?_
        rw [Nat.mul_assoc, ← Nat.pow_add, he, Nat.pow_add, ← Nat.mul_assoc, e, Nat.pow_add, ← Nat.mul_assoc, hk]
        simp only [Nat.mul_comm, Nat.mul_left_comm, Nat.mul_assoc]
      rw [Nat.pow_zero, Nat.mul_one]
      conv => lhs; rw [this]
      exact cut_exact .even s (K N) t
  rw [hkept]
  have : (((N.log2 : Int) - 52) - -1074).toNat = N.log2 + 1022 := by omega
  rw [this]
  unfold rung
  rw [Nat.min_eq_left (by omega)]

theorem read_word (s : Bool) {N : Nat} (h1 : 1 ≤ N) (h : N ≤ 2 ^ 53) :
    double.read (double.word s (rung N)) = .number s (K N) ((N.log2 : Int) - 52) := by
  have hl := log2_le53 h
  have hb := K_lo h1 h
  have hr : rung N = (N.log2 + 1023) * 2 ^ 52 + (K N - 2 ^ 52) := by unfold rung; omega
  have hdiv : rung N / 2 ^ 52 = N.log2 + 1023 := by rw [hr]; omega
  have hmod : rung N % 2 ^ 52 = K N - 2 ^ 52 := by rw [hr]; omega
  have hlt : rung N < 2 ^ 63 := by rw [hr]; omega
  have w1 : double.word s (rung N) / 2 ^ 63 % 2 = s.toNat := by
    unfold Format.word; rw [signWeight_eq]; cases s <;> simp <;> omega
  have w2 : double.word s (rung N) % 2 ^ 63 = rung N := by
    unfold Format.word; rw [signWeight_eq]; cases s <;> simp <;> omega
  unfold Format.read
  simp only [leastPlace_eq, binade_eq, infRung_eq, signWeight_eq, w1, w2]
  rw [if_neg (by rw [hr]; omega), if_pos (by rw [hr]; omega), hdiv, hmod]
  have e1 : (s.toNat == 1) = s := by cases s <;> rfl
  rw [e1]
  have e2 : 2 ^ 52 + (K N - 2 ^ 52) = K N := by omega
  have e3 : (-1074 : Int) + ((N.log2 + 1023 - 1 : Nat) : Int) = (N.log2 : Int) - 52 := by omega
  rw [e2, e3]

/-- The places below the point. -/
def B0 : Nat := 1074
theorem B0_eq : B0 = 1074 := rfl

/-- A datum stands for a whole number: its sign and its size. -/
def Dat (d : Datum) (s : Bool) (N : Nat) : Prop := ∃ (m a : Nat), d = .number s m ((a : Int) - 1074) ∧ m * 2 ^ a = N * 2 ^ B0

theorem F_eq {n : Int} (h0 : n ≠ 0) (h : n.natAbs ≤ 2 ^ 53) : F n = double.word (n < 0) (rung n.natAbs) :=
  nearest_val _ (c := 0) (d := 0) (by omega) h rfl 0 rfl

theorem F_zero : F 0 = 0 := by decide +kernel

theorem dat_word (s : Bool) {N : Nat} (h1 : 1 ≤ N) (h : N ≤ 2 ^ 53) : Dat (double.read (double.word s (rung N))) s N := by
  obtain ⟨q, hq⟩ : ∃ q : Nat, q + 52 = B0 := ⟨1022, rfl⟩
  have hB := B0_eq
  refine ⟨K N, N.log2 + q, ?_, ?_⟩
  · rw [read_word s h1 h]; congr 1; omega
  · rw [Nat.pow_add, ← Nat.mul_assoc, K_mul h1 h, Nat.mul_assoc, ← Nat.pow_add, Nat.add_comm 52 q, hq]

theorem dat_F {n : Int} (h : n.natAbs ≤ 2 ^ 53) : Dat (double.read (F n)) (n < 0) n.natAbs := by
  by_cases h0 : n = 0
  · subst h0
    exact ⟨0, 0, by decide +kernel, by simp⟩
  · rw [F_eq h0 h]; exact dat_word _ (by omega) h

theorem dat_NZ : Dat (double.read NZ) true 0 := ⟨0, 0, by decide +kernel, by simp⟩

/-- A word that stands for a whole number: its float, or -0 for 0. -/
def Is (b : Nat) (n : Int) : Prop := b = F n ∨ (n = 0 ∧ b = NZ)

/-- The signed number of a sign and a size. -/
def sg (s : Bool) (N : Nat) : Int := if s then -(N : Int) else N

theorem dat_is {b : Nat} {n : Int} (h : Is b n) (hn : n.natAbs ≤ 2 ^ 53) : ∃ s, Dat (double.read b) s n.natAbs ∧ sg s n.natAbs = n := by
  rcases h with rfl | ⟨rfl, rfl⟩
  · refine ⟨_, dat_F hn, ?_⟩
    unfold sg; by_cases hs : n < 0 <;> simp [hs] <;> omega
  · exact ⟨true, dat_NZ, rfl⟩

theorem write_val {s : Bool} {m N c d : Nat} (h : N ≤ 2 ^ 53) (e : m * 2 ^ c = N * 2 ^ d) (p : Int) (hp : p = (c : Int) - d) :
    Is (double.write (.number s m p)) (sg s N) ∧ ((0 < N ∨ s = false) → double.write (.number s m p) = F (sg s N)) := by
  show Is (double.nearest s m p) _ ∧ (_ → double.nearest s m p = _)
  by_cases h0 : N = 0
  · subst h0
    have hm : m = 0 := by
      rw [Nat.zero_mul] at e
      rcases Nat.mul_eq_zero.1 e with h | h
      · exact h
      · exact absurd h (Nat.ne_of_gt (Nat.two_pow_pos _))
    subst hm
    cases s
    · have e : double.nearest false 0 p = F 0 := by unfold Format.nearest; rw [if_pos rfl]; decide +kernel
      exact ⟨.inl e, fun _ => e⟩
    · have e : double.nearest true 0 p = NZ := by unfold Format.nearest; rw [if_pos rfl]; decide +kernel
      exact ⟨.inr ⟨rfl, e⟩, fun h => by simp at h⟩
  · have e := nearest_val s (by omega) h e p hp
    have e2 : F (sg s N) = double.word s (rung N) := by
      have hne : sg s N ≠ 0 := by unfold sg; cases s <;> simp <;> omega
      have hab : (sg s N).natAbs = N := by unfold sg; cases s <;> simp
      have hsg : (decide (sg s N < 0)) = s := by unfold sg; cases s <;> simp <;> omega
      rw [F_eq hne (by rw [hab]; exact h), hab, hsg]
    exact ⟨.inl (e.trans e2.symm), fun _ => e.trans e2.symm⟩

theorem signed_eq (s : Bool) (m u : Nat) : signed s m u = sg s (m * 2 ^ u) := by
  unfold signed sg; rw [Nat.shiftLeft_eq]

theorem sg_mul (s : Bool) (m k : Nat) : sg s (m * k) = sg s m * (k : Int) := by
  unfold sg; cases s <;> simp [Int.neg_mul]

/-- Two data over one place. -/
theorem align {s t : Bool} {m n a b N M : Nat} (hm : m * 2 ^ a = N * 2 ^ B0) (hn : n * 2 ^ b = M * 2 ^ B0) :
    ∃ c : Nat, min ((a : Int) - 1074) ((b : Int) - 1074) = (c : Int) - 1074 ∧
      signed s m (((a : Int) - 1074) - ((c : Int) - 1074)).toNat * 2 ^ c = sg s N * 2 ^ B0 ∧
      signed t n (((b : Int) - 1074) - ((c : Int) - 1074)).toNat * 2 ^ c = sg t M * 2 ^ B0 := by
  refine ⟨min a b, by omega, ?_, ?_⟩
  · have e : (((a : Int) - 1074) - (((min a b : Nat) : Int) - 1074)).toNat = a - min a b := by omega
    rw [e, signed_eq]
    have : m * 2 ^ (a - min a b) * 2 ^ min a b = N * 2 ^ B0 := by
      rw [Nat.mul_assoc, ← Nat.pow_add, Nat.sub_add_cancel (Nat.min_le_left _ _), hm]
    have h2 := congrArg (sg s) this
    rw [sg_mul, sg_mul s N] at h2
    simpa using h2
  · have e : (((b : Int) - 1074) - (((min a b : Nat) : Int) - 1074)).toNat = b - min a b := by omega
    rw [e, signed_eq]
    have : n * 2 ^ (b - min a b) * 2 ^ min a b = M * 2 ^ B0 := by
      rw [Nat.mul_assoc, ← Nat.pow_add, Nat.sub_add_cancel (Nat.min_le_right _ _), hn]
    have h2 := congrArg (sg t) this
    rw [sg_mul, sg_mul t M] at h2
    simpa using h2

theorem two_pow_pos_int (c : Nat) : (0 : Int) < 2 ^ c := by
  have := Nat.two_pow_pos c
  have h : ((2 ^ c : Nat) : Int) = (2 : Int) ^ c := by simp
  omega

theorem sum_dat {x y : Datum} {s t : Bool} {N M : Nat} (hx : Dat x s N) (hy : Dat y t M) (hb : (sg s N + sg t M).natAbs ≤ 2 ^ 53) :
    ∃ r, (x.sum y).map double.write = some r ∧ Is r (sg s N + sg t M) ∧ ((sg s N + sg t M ≠ 0 ∨ s = false ∨ t = false) → r = F (sg s N + sg t M)) := by
  obtain ⟨m, a, rfl, hm⟩ := hx
  obtain ⟨n, b, rfl, hn⟩ := hy
  obtain ⟨c, hc, h1, h2⟩ := align (s := s) (t := t) hm hn
  simp only [Datum.sum, Option.map_some, hc]
  refine ⟨_, rfl, ?_⟩
  generalize signed s m _ = X at h1 ⊢
  generalize signed t n _ = Y at h2 ⊢
  generalize hv : sg s N + sg t M = v at *
  have hxy : (X + Y) * 2 ^ c = v * 2 ^ B0 := by rw [Int.add_mul, h1, h2, ← hv, Int.add_mul]
  have p1 := two_pow_pos_int c
  have p2 := two_pow_pos_int B0
  have habs : (X + Y).natAbs * 2 ^ c = v.natAbs * 2 ^ B0 := by
    have := congrArg Int.natAbs hxy
    rw [Int.natAbs_mul, Int.natAbs_mul] at this
    have e (k : Nat) : ((2 : Int) ^ k).natAbs = 2 ^ k := by rw [Int.natAbs_pow]; rfl
    rw [e, e] at this
    exact this
  have hz : X + Y = 0 ↔ v = 0 := by
    constructor
    · intro h; rw [h, Int.zero_mul] at hxy
      rcases Int.mul_eq_zero.1 hxy.symm with h | h
      · exact h
      · omega
    · intro h; rw [h, Int.zero_mul] at hxy
      rcases Int.mul_eq_zero.1 hxy with h | h
      · exact h
      · omega
  have hneg : X + Y < 0 ↔ v < 0 := by
    constructor
    · intro h
      have : (X + Y) * 2 ^ c < 0 := Int.mul_neg_of_neg_of_pos h p1
      rw [hxy, Int.mul_comm] at this
      exact Int.neg_of_mul_neg_right this (by omega)
    · intro h
      have : v * 2 ^ B0 < 0 := Int.mul_neg_of_neg_of_pos h p2
      rw [← hxy, Int.mul_comm] at this
      exact Int.neg_of_mul_neg_right this (by omega)
  by_cases h0 : v = 0
  · have e0 := hz.2 h0
    rw [if_pos e0]
    obtain ⟨w1, w2⟩ := write_val (s := s && t) hb habs ((c : Int) - 1074) rfl
    have e1 : sg (s && t) v.natAbs = v := by rw [h0]; unfold sg; split <;> rfl
    rw [e1] at w1 w2
    refine ⟨w1, fun h => w2 ?_⟩
    rcases h with h | h | h
    · exact absurd h0 h
    · right; simp [h]
    · right; simp [h]
  · have e0 : ¬ (X + Y = 0) := fun h => h0 (hz.1 h)
    rw [if_neg e0]
    obtain ⟨w1, w2⟩ := write_val (s := decide (X + Y < 0)) hb habs ((c : Int) - 1074) rfl
    have e1 : sg (decide (X + Y < 0)) v.natAbs = v := by
      unfold sg
      by_cases hh : v < 0
      · rw [if_pos (by simpa using hneg.2 hh)]; omega
      · rw [if_neg (by simpa using (fun h => hh (hneg.1 h)))]; omega
    rw [e1] at w1 w2
    exact ⟨w1, fun _ => w2 (.inl (by omega))⟩

theorem opposite_dat {x : Datum} {s : Bool} {N : Nat} (hx : Dat x s N) : Dat x.opposite (!s) N := by
  obtain ⟨m, a, rfl, hm⟩ := hx
  exact ⟨m, a, rfl, hm⟩

theorem sg_not (s : Bool) (N : Nat) : sg (!s) N = - sg s N := by unfold sg; cases s <;> simp

theorem fmt : FloatKind.f64.format = double := rfl

theorem add_is {x y : Nat} {n m : Int} (hx : Is x n) (hy : Is y m) (hn : n.natAbs ≤ 2 ^ 53) (hm : m.natAbs ≤ 2 ^ 53) (hs : (n + m).natAbs ≤ 2 ^ 53) :
    ∃ r, floatBits .add .f64 x y = some r ∧ Is r (n + m) := by
  obtain ⟨s, h1, e1⟩ := dat_is hx hn
  obtain ⟨t, h2, e2⟩ := dat_is hy hm
  obtain ⟨r, h, hr, _⟩ := sum_dat h1 h2 (by rw [e1, e2]; exact hs)
  rw [e1, e2] at hr
  exact ⟨r, h, hr⟩

theorem add_F {n m : Int} (hn : n.natAbs ≤ 2 ^ 53) (hm : m.natAbs ≤ 2 ^ 53) (hs : (n + m).natAbs ≤ 2 ^ 53) :
    floatBits .add .f64 (F n) (F m) = some (F (n + m)) := by
  have a := dat_F hn
  have b := dat_F hm
  have ea : sg (decide (n < 0)) n.natAbs = n := by unfold sg; by_cases hs : n < 0 <;> simp [hs] <;> omega
  have eb : sg (decide (m < 0)) m.natAbs = m := by unfold sg; by_cases hs : m < 0 <;> simp [hs] <;> omega
  obtain ⟨r, h, _, hr⟩ := sum_dat a b (by rw [ea, eb]; exact hs)
  rw [ea, eb] at hr
  have : r = F (n + m) := hr (by
    by_cases h0 : n + m = 0
    · right
      by_cases hn0 : n < 0
      · right; simp; omega
      · left; simp; omega
    · exact .inl h0)
  rw [← this]; exact h

theorem sub_is {x y : Nat} {n m : Int} (hx : Is x n) (hy : Is y m) (hn : n.natAbs ≤ 2 ^ 53) (hm : m.natAbs ≤ 2 ^ 53) (hs : (n - m).natAbs ≤ 2 ^ 53) :
    ∃ r, floatBits .sub .f64 x y = some r ∧ Is r (n - m) := by
  obtain ⟨s, h1, e1⟩ := dat_is hx hn
  obtain ⟨t, h2, e2⟩ := dat_is hy hm
  have e3 : sg s n.natAbs + sg (!t) m.natAbs = n - m := by rw [sg_not, e1, e2]; omega
  obtain ⟨r, h, hr, _⟩ := sum_dat h1 (opposite_dat h2) (by rw [e3]; exact hs)
  rw [e3] at hr
  exact ⟨r, h, hr⟩

theorem sub_F {n m : Int} (hn : n.natAbs ≤ 2 ^ 53) (hm : m.natAbs ≤ 2 ^ 53) (hs : (n - m).natAbs ≤ 2 ^ 53) :
    floatBits .sub .f64 (F n) (F m) = some (F (n - m)) := by
  have a := dat_F hn
  have b := opposite_dat (dat_F hm)
  have ea : sg (decide (n < 0)) n.natAbs = n := by unfold sg; by_cases hs : n < 0 <;> simp [hs] <;> omega
  have eb : sg (!decide (m < 0)) m.natAbs = -m := by rw [sg_not]; unfold sg; by_cases hs : m < 0 <;> simp [hs] <;> omega
  obtain ⟨r, h, _, hr⟩ := sum_dat a b (by rw [ea, eb]; exact hs)
  rw [ea, eb] at hr
  have : r = F (n + -m) := hr (by
    by_cases h0 : n + -m = 0
    · right
      by_cases hn0 : n < 0
      · right; simp; omega
      · left; simp; omega
    · exact .inl h0)
  rw [show n - m = n + -m from by omega, ← this]; exact h

theorem mul_is {x y : Nat} {n m : Int} (hx : Is x n) (hy : Is y m) (hn : n.natAbs ≤ 2 ^ 53) (hm : m.natAbs ≤ 2 ^ 53) (hs : (n * m).natAbs ≤ 2 ^ 53) :
    ∃ r, floatBits .mul .f64 x y = some r ∧ Is r (n * m) := by
  obtain ⟨s, ⟨a, u, h1, g1⟩, e1⟩ := dat_is hx hn
  obtain ⟨t, ⟨b, v, h2, g2⟩, e2⟩ := dat_is hy hm
  show ∃ r, ((double.read x).product (double.read y)).map double.write = some r ∧ _
  rw [h1, h2]
  simp only [Datum.product, Option.map_some]
  refine ⟨_, rfl, ?_⟩
  have hval : a * b * 2 ^ (u + v) = n.natAbs * m.natAbs * 2 ^ (B0 + B0) := by
    rw [Nat.pow_add, Nat.pow_add, Nat.mul_mul_mul_comm, g1, g2, Nat.mul_mul_mul_comm]
  have e3 : sg (s ^^ t) (n.natAbs * m.natAbs) = n * m := by
    conv => rhs; rw [← e1, ← e2]
    unfold sg; cases s <;> cases t <;> simp [Int.neg_mul, Int.mul_neg]
  obtain ⟨w1, _⟩ := write_val (s := s ^^ t) (by rw [← Int.natAbs_mul]; exact hs) hval (((u : Int) - 1074) + ((v : Int) - 1074)) (by have := B0_eq; simp; omega)
  rw [e3] at w1
  exact w1

theorem order_is {x y : Nat} {n m : Int} (hx : Is x n) (hy : Is y m) (hn : n.natAbs ≤ 2 ^ 53) (hm : m.natAbs ≤ 2 ^ 53) :
    FloatKind.f64.format.order x y = some (compare n m) := by
  obtain ⟨s, ⟨a, u, h1, g1⟩, e1⟩ := dat_is hx hn
  obtain ⟨t, ⟨b, v, h2, g2⟩, e2⟩ := dat_is hy hm
  show (double.read x).order (double.read y) = _
  rw [h1, h2]
  obtain ⟨c, hc, k1, k2⟩ := align (s := s) (t := t) g1 g2
  simp only [Datum.order, hc]
  congr 1
  rw [e1] at k1
  rw [e2] at k2
  generalize signed s a _ = X at k1 ⊢
  generalize signed t b _ = Y at k2 ⊢
  have p1 := two_pow_pos_int c
  have p2 := two_pow_pos_int B0
  have hlt : X < Y ↔ n < m := by
    constructor
    · intro h
      have : X * 2 ^ c < Y * 2 ^ c := Int.mul_lt_mul_of_pos_right h p1
      rw [k1, k2] at this
      exact Int.lt_of_mul_lt_mul_right this (by omega)
    · intro h
      have : n * 2 ^ B0 < m * 2 ^ B0 := Int.mul_lt_mul_of_pos_right h p2
      rw [← k1, ← k2] at this
      exact Int.lt_of_mul_lt_mul_right this (by omega)
  have heq : X = Y ↔ n = m := by
    constructor
    · intro h
      rw [h, k2] at k1
      exact (Int.eq_of_mul_eq_mul_right (by omega) k1).symm
    · intro h
      rw [h, ← k2] at k1
      exact Int.eq_of_mul_eq_mul_right (by omega) k1
  show compareOfLessAndEq X Y = compareOfLessAndEq n m
  unfold compareOfLessAndEq
  simp only [hlt, heq]

theorem toInt_is {x : Nat} {n : Int} (hx : Is x n) (hn : n.natAbs ≤ 2 ^ 53) : floatToIntVal .f64 x .i64 = some n := by
  obtain ⟨s, ⟨a, u, h1, g1⟩, e1⟩ := dat_is hx hn
  unfold floatToIntVal
  show (match (double.read x).toInt .zero with
  | some n => if IntKind.i64.min ≤ n ∧ n ≤ IntKind.i64.max then some n else none
  | none => none) = _
  rw [h1]
  have hcut : Toward.zero.cut s (a <<< ((u : Int) - 1074).toNat) (-((u : Int) - 1074)).toNat = n.natAbs := by
    rw [Nat.shiftLeft_eq]
    by_cases hc : 1074 ≤ u
    · have z : (-((u : Int) - 1074)).toNat = 0 := by omega
      have z2 : ((u : Int) - 1074).toNat = u - B0 := by have := B0_eq; omega
      rw [z, z2]
      have hB : B0 ≤ u := hc
      have : a * 2 ^ (u - B0) = n.natAbs := by
        refine Nat.eq_of_mul_eq_mul_right (Nat.two_pow_pos B0) ?_
        rw [Nat.mul_assoc, ← Nat.pow_add, Nat.sub_add_cancel hB, g1]
      rw [this]
      have := cut_exact .zero s n.natAbs 0
      simpa using this
    · have z : (-((u : Int) - 1074)).toNat = B0 - u := by have := B0_eq; omega
      have z2 : ((u : Int) - 1074).toNat = 0 := by omega
      rw [z, z2, Nat.pow_zero, Nat.mul_one]
      have : a = n.natAbs * 2 ^ (B0 - u) := by
        refine Nat.eq_of_mul_eq_mul_right (Nat.two_pow_pos u) ?_
        rw [g1, Nat.mul_assoc, ← Nat.pow_add, Nat.sub_add_cancel (by have := B0_eq; omega)]
      rw [this]
      exact cut_exact .zero s n.natAbs (B0 - u)
  simp only [Datum.toInt, Datum.integral, hcut]
  have e2 : signed s n.natAbs 0 = n := by rw [signed_eq, Nat.pow_zero, Nat.mul_one, e1]
  rw [e2]
  have : IntKind.i64.min ≤ n ∧ n ≤ IntKind.i64.max := by
    have h1 : IntKind.i64.min = -9223372036854775808 := by decide +kernel
    have h2 : IntKind.i64.max = 9223372036854775807 := by decide +kernel
    rw [h1, h2]; omega
  exact if_pos this

theorem xor63 {r : Nat} (h : r < 2 ^ 63) : r ^^^ 2 ^ 63 = 2 ^ 63 + r := by
  have e := Nat.two_pow_add_eq_or_of_lt h 1
  rw [Nat.mul_one] at e
  rw [e]
  refine Nat.eq_of_testBit_eq fun i => ?_
  simp only [Nat.testBit_xor, Nat.testBit_or, Nat.testBit_two_pow]
  by_cases hi : 63 = i
  · subst hi; rw [Nat.testBit_lt_two_pow h]; simp
  · simp [hi]

theorem xor63' {r : Nat} (h : r < 2 ^ 63) : (2 ^ 63 + r) ^^^ 2 ^ 63 = r := by
  rw [← xor63 h, Nat.xor_assoc, Nat.xor_self, Nat.xor_zero]

theorem rung_lt {N : Nat} (h1 : 1 ≤ N) (h : N ≤ 2 ^ 53) : rung N < 2 ^ 63 := by
  have hl := log2_le53 h
  have hb := K_lo h1 h
  unfold rung; omega

theorem neg_is {x : Nat} {n : Int} (hx : Is x n) (hn : n.natAbs ≤ 2 ^ 53) : Is (Op.negFloat .f64 x) (-n) := by
  have e (b : Nat) : Op.negFloat .f64 b = b ^^^ 2 ^ 63 := rfl
  rw [e]
  rcases hx with rfl | ⟨rfl, rfl⟩
  · by_cases h0 : n = 0
    · subst h0
      right
      refine ⟨rfl, ?_⟩
      rw [F_zero]; decide +kernel
    · left
      have hr := rung_lt (N := n.natAbs) (by omega) hn
      rw [F_eq h0 hn, F_eq (n := -n) (by omega) (by rw [Int.natAbs_neg]; exact hn), Int.natAbs_neg]
      by_cases hs : n < 0
      · have : ¬ (-n < 0) := by omega
        simp only [hs, this, decide_true, decide_false]
        show (if true = true then double.signWeight + _ else _) ^^^ _ = (if false = true then _ else _)
        rw [if_pos rfl, if_neg (by decide), signWeight_eq]
        exact xor63' hr
      · have : -n < 0 := by omega
        simp only [hs, this, decide_true, decide_false]
        show (if false = true then _ else _) ^^^ _ = (if true = true then double.signWeight + _ else _)
        rw [if_pos rfl, if_neg (by decide), signWeight_eq]
        exact xor63 hr
  · left; rw [Int.neg_zero, F_zero]; decide +kernel

/-- A bit mask of the lowest bits is a remainder. -/
theorem mask64 (x : Int) (j : Nat) (hj : j ≤ 62) : bits .and .i64 x (2 ^ j - 1) = x % 2 ^ j := by
  have hp : (2 : Nat) ^ j ≤ 2 ^ 62 := Nat.pow_le_pow_right (by omega) hj
  have hp1 : 0 < (2 : Nat) ^ j := Nat.two_pow_pos j
  have e2 : ((2 : Int) ^ j) = ((2 ^ j : Nat) : Int) := by simp
  show IntKind.i64.wrap ((BitVec.ofInt 64 x &&& BitVec.ofInt 64 (2 ^ j - 1)).toNat : Int) = _
  have e1 : (BitVec.ofInt 64 ((2 : Int) ^ j - 1)).toNat = 2 ^ j - 1 := by
    rw [BitVec.toNat_ofInt, e2]; omega
  rw [BitVec.toNat_and, e1, Nat.and_two_pow_sub_one_eq_mod, BitVec.toNat_ofInt]
  have e3 : (((x % ((2 ^ 64 : Nat) : Int)).toNat % 2 ^ j : Nat) : Int) = x % 2 ^ j := by
    rw [Int.natCast_emod, Int.toNat_of_nonneg (Int.emod_nonneg _ (by omega)), e2]
    refine Int.emod_emod_of_dvd _ ?_
    exact Int.natCast_dvd_natCast.2 (Nat.pow_dvd_pow 2 (by omega))
  rw [e3, e2]
  have h1 := Int.emod_nonneg x (b := ((2 ^ j : Nat) : Int)) (by omega)
  have h2 := Int.emod_lt_of_pos x (b := ((2 ^ j : Nat) : Int)) (by omega)
  exact IntWalk.i64_in _ (by omega)

theorem mask3 (x : Int) : bits .and .i64 x 3 = x % 4 := mask64 x 2 (by omega)

/-- A product of whole numbers, part by part. -/
theorem cmul_is {a b c d : Nat} {x y u v : Int} (ha : Is a x) (hb : Is b y) (hc : Is c u) (hd : Is d v)
    (h1 : x.natAbs ≤ 2 ^ 53) (h2 : y.natAbs ≤ 2 ^ 53) (h3 : u.natAbs ≤ 2 ^ 53) (h4 : v.natAbs ≤ 2 ^ 53)
    (k1 : (x * u).natAbs ≤ 2 ^ 53) (k2 : (y * v).natAbs ≤ 2 ^ 53) (k3 : (x * v).natAbs ≤ 2 ^ 53) (k4 : (y * u).natAbs ≤ 2 ^ 53)
    (k5 : (x * u - y * v).natAbs ≤ 2 ^ 53) (k6 : (x * v + y * u).natAbs ≤ 2 ^ 53) :
    ∃ re im, cMulBits a b c d = some (re, im) ∧ Is re (x * u - y * v) ∧ Is im (x * v + y * u) := by
  obtain ⟨r1, e1, i1⟩ := mul_is ha hc h1 h3 k1
  obtain ⟨r2, e2, i2⟩ := mul_is hb hd h2 h4 k2
  obtain ⟨r3, e3, i3⟩ := sub_is i1 i2 k1 k2 k5
  obtain ⟨r4, e4, i4⟩ := mul_is ha hd h1 h4 k3
  obtain ⟨r5, e5, i5⟩ := mul_is hb hc h2 h3 k4
  obtain ⟨r6, e6, i6⟩ := add_is i4 i5 k3 k4 k6
  refine ⟨r3, r6, ?_, i3, i6⟩
  unfold cMulBits
  simp only [e1, e2, e3, e4, e5, e6, Option.bind_some]

theorem csum_is {op : BinOp} {a b c d : Nat} {x y u v : Int} (ho : op = .add) (ha : Is a x) (hb : Is b y) (hc : Is c u) (hd : Is d v)
    (h1 : x.natAbs ≤ 2 ^ 53) (h2 : y.natAbs ≤ 2 ^ 53) (h3 : u.natAbs ≤ 2 ^ 53) (h4 : v.natAbs ≤ 2 ^ 53)
    (k1 : (x + u).natAbs ≤ 2 ^ 53) (k2 : (y + v).natAbs ≤ 2 ^ 53) :
    ∃ re im, cSumBits op .f64 a b c d = some (re, im) ∧ Is re (x + u) ∧ Is im (y + v) := by
  subst ho
  obtain ⟨r1, e1, i1⟩ := add_is ha hc h1 h3 k1
  obtain ⟨r2, e2, i2⟩ := add_is hb hd h2 h4 k2
  refine ⟨r1, r2, ?_, i1, i2⟩
  unfold cSumBits
  simp only [e1, e2, Option.bind_some]

theorem cdiff_is {op : BinOp} {a b c d : Nat} {x y u v : Int} (ho : op = .sub) (ha : Is a x) (hb : Is b y) (hc : Is c u) (hd : Is d v)
    (h1 : x.natAbs ≤ 2 ^ 53) (h2 : y.natAbs ≤ 2 ^ 53) (h3 : u.natAbs ≤ 2 ^ 53) (h4 : v.natAbs ≤ 2 ^ 53)
    (k1 : (x - u).natAbs ≤ 2 ^ 53) (k2 : (y - v).natAbs ≤ 2 ^ 53) :
    ∃ re im, cSumBits op .f64 a b c d = some (re, im) ∧ Is re (x - u) ∧ Is im (y - v) := by
  subst ho
  obtain ⟨r1, e1, i1⟩ := sub_is ha hc h1 h3 k1
  obtain ⟨r2, e2, i2⟩ := sub_is hb hd h2 h4 k2
  refine ⟨r1, r2, ?_, i1, i2⟩
  unfold cSumBits
  simp only [e1, e2, Option.bind_some]

theorem ofInt_F (n : Int) : floatOfInt .f64 n = F n := rfl

end Go.Proofs.Ytkpngkdkkcadfaa.Flo
