/- Buddies: the greatest aligned runs of a set of frames. The plain law, no program in sight. -/
namespace Go.Proofs.Ytmmjkebhcihjlaa.Bud

/-- All frames of a run are free. -/
def All (S : Nat → Bool) (f o : Nat) : Prop := ∀ k, f ≤ k → k < f + 2 ^ o → S k = true
/-- The run of the next order around a run. -/
def up (f o : Nat) : Nat := f / 2 ^ (o + 1) * 2 ^ (o + 1)

theorem pow_pos (o : Nat) : 0 < 2 ^ o := Nat.two_pow_pos o
theorem pow_succ' (o : Nat) : 2 ^ (o + 1) = 2 ^ o + 2 ^ o := by rw [Nat.pow_succ]; omega
theorem pow_le {o p : Nat} (h : o ≤ p) : 2 ^ o ≤ 2 ^ p := Nat.pow_le_pow_right (by omega) h
theorem pow_split {o p : Nat} (h : o ≤ p) : 2 ^ p = 2 ^ (p - o) * 2 ^ o := by rw [← Nat.pow_add]; congr 1; omega
theorem mod_le {f o p : Nat} (h : f % 2 ^ p = 0) (hop : o ≤ p) : f % 2 ^ o = 0 := Nat.mod_eq_zero_of_dvd (Nat.dvd_trans (Nat.pow_dvd_pow 2 hop) (Nat.dvd_of_mod_eq_zero h))
theorem al_form {f o : Nat} (h : f % 2 ^ o = 0) : f / 2 ^ o * 2 ^ o = f := Nat.div_mul_cancel (Nat.dvd_of_mod_eq_zero h)
theorem up_al (f o : Nat) : up f o % 2 ^ (o + 1) = 0 := Nat.mul_mod_left _ _
theorem fl_le (k o : Nat) : k / 2 ^ o * 2 ^ o ≤ k := Nat.div_mul_le_self _ _
theorem fl_lt (k o : Nat) : k < k / 2 ^ o * 2 ^ o + 2 ^ o := by
  have := Nat.lt_div_mul_add (a := k) (pow_pos o)
  omega
theorem fl_al (k o : Nat) : k / 2 ^ o * 2 ^ o % 2 ^ o = 0 := Nat.mul_mod_left _ _

/-- Aligned runs that meet lie one within the other. -/
theorem nest {a b k o p : Nat} (ha : a % 2 ^ o = 0) (hb : b % 2 ^ p = 0) (hop : o ≤ p) (h1 : a ≤ k) (h2 : k < a + 2 ^ o) (h3 : b ≤ k) (h4 : k < b + 2 ^ p) : b ≤ a ∧ a + 2 ^ o ≤ b + 2 ^ p := by
  have e1 := al_form ha
  have e2 := al_form (mod_le hb hop)
  have e3 := pow_split hop
  generalize hq : a / 2 ^ o = q at e1
  generalize hr : b / 2 ^ o = r at e2
  generalize hs : 2 ^ (p - o) = s at e3
  rw [e3] at h4 ⊢
  generalize 2 ^ o = t at *
  subst e1
  subst e2
  have k1 : r < q + 1 := by
    apply Nat.lt_of_mul_lt_mul_right (a := t)
    rw [Nat.succ_mul]; omega
  have k2 : q < r + s := by
    apply Nat.lt_of_mul_lt_mul_right (a := t)
    rw [Nat.add_mul]; omega
  have k3 : r * t ≤ q * t := Nat.mul_le_mul_right t (by omega)
  have k4 : (q + 1) * t ≤ (r + s) * t := Nat.mul_le_mul_right t (by omega)
  rw [Nat.succ_mul, Nat.add_mul] at k4
  exact ⟨k3, k4⟩

theorem fl_eq {f k o : Nat} (h : f % 2 ^ o = 0) (h1 : f ≤ k) (h2 : k < f + 2 ^ o) : k / 2 ^ o * 2 ^ o = f := by
  have a := nest h (fl_al k o) (Nat.le_refl o) h1 h2 (fl_le k o) (fl_lt k o)
  omega

/-- A run is half of the one around it. -/
theorem up_half {f o : Nat} (h : f % 2 ^ o = 0) : up f o = f ∨ up f o + 2 ^ o = f := by
  have a := nest h (up_al f o) (Nat.le_succ o) (Nat.le_refl f) (by have := pow_pos o; omega) (fl_le f (o + 1)) (fl_lt f (o + 1))
  have e := pow_succ' o
  rcases Nat.lt_or_ge (up f o) f with hl | hg
  · right
    have e1 := al_form h
    have e2 := al_form (mod_le (up_al f o) (Nat.le_succ o))
    generalize up f o / 2 ^ o = r at e2
    generalize f / 2 ^ o = q at e1
    have hp := pow_pos o
    rw [e] at a
    generalize 2 ^ o = t at *
    have k1 : r < q := by
      apply Nat.lt_of_mul_lt_mul_right (a := t)
      omega
    have k2 : q < r + 2 := by
      apply Nat.lt_of_mul_lt_mul_right (a := t)
      rw [Nat.add_mul]; omega
    have : q = r + 1 := by omega
    subst this
    rw [Nat.succ_mul] at e1
    omega
  · left; omega

theorem All.sub {S : Nat → Bool} {a b o p : Nat} (h : All S b p) (h1 : b ≤ a) (h2 : a + 2 ^ o ≤ b + 2 ^ p) : All S a o := fun k k1 k2 => h k (by omega) (by omega)
theorem All.le {S T : Nat → Bool} {a o : Nat} (h : All S a o) (hst : ∀ k, S k = true → T k = true) : All T a o := fun k k1 k2 => hst k (h k k1 k2)

/-- A greatest run. -/
structure Mx (S : Nat → Bool) (f o : Nat) : Prop where
  al : f % 2 ^ o = 0
  all : All S f o
  le : o ≤ 9
  top : o < 9 → ¬ All S (up f o) (o + 1)

/-- What meets a greatest run is no greater. -/
theorem Mx.ge {S : Nat → Bool} {f o b p k : Nat} (h : Mx S f o) (hb : b % 2 ^ p = 0) (ha : All S b p) (hp : p ≤ 9) (h1 : f ≤ k) (h2 : k < f + 2 ^ o) (h3 : b ≤ k) (h4 : k < b + 2 ^ p) : p ≤ o := by
  apply Classical.byContradiction
  intro hn
  have hop : o + 1 ≤ p := by omega
  have n1 := nest h.al hb (by omega) h1 h2 h3 h4
  have hpo := pow_pos o
  have n2 := nest (up_al f o) hb hop (k := f) (fl_le f (o + 1)) (fl_lt f (o + 1)) n1.1 (by omega)
  exact h.top (by omega) (ha.sub n2.1 n2.2)

theorem Mx.unique {S : Nat → Bool} {f o g p k : Nat} (h : Mx S f o) (h' : Mx S g p) (h1 : f ≤ k) (h2 : k < f + 2 ^ o) (h3 : g ≤ k) (h4 : k < g + 2 ^ p) : f = g ∧ o = p := by
  have e1 := h.ge h'.al h'.all h'.le h1 h2 h3 h4
  have e2 := h'.ge h.al h.all h.le h3 h4 h1 h2
  obtain rfl : o = p := by omega
  have n1 := nest h.al h'.al (Nat.le_refl _) h1 h2 h3 h4
  exact ⟨by omega, rfl⟩

/-- Each free frame lies in a greatest run. -/
theorem Mx.exists {S : Nat → Bool} {k : Nat} : ∀ (d j : Nat), j + d = 9 → All S (k / 2 ^ j * 2 ^ j) j → ∃ o, j ≤ o ∧ Mx S (k / 2 ^ o * 2 ^ o) o
  | 0, j, hj, ha => ⟨j, Nat.le_refl _, fl_al k j, ha, by omega, fun h => by omega⟩
  | d + 1, j, hj, ha => by
    by_cases hu : All S (up (k / 2 ^ j * 2 ^ j) j) (j + 1)
    · have e : up (k / 2 ^ j * 2 ^ j) j = k / 2 ^ (j + 1) * 2 ^ (j + 1) := by
        have n := nest (fl_al k j) (fl_al k (j + 1)) (Nat.le_succ j) (fl_le k j) (fl_lt k j) (fl_le k (j + 1)) (fl_lt k (j + 1))
        have hpj := pow_pos j
        exact fl_eq (fl_al k (j + 1)) n.1 (by omega)
      rw [e] at hu
      obtain ⟨o, h1, h2⟩ := Mx.exists d (j + 1) (by omega) hu
      exact ⟨o, by omega, h2⟩
    · exact ⟨j, Nat.le_refl _, fl_al k j, ha, by omega, fun _ => hu⟩

theorem Mx.of {S : Nat → Bool} {k : Nat} (h : S k = true) : ∃ o, Mx S (k / 2 ^ o * 2 ^ o) o := by
  obtain ⟨o, _, h⟩ := Mx.exists (S := S) (k := k) 9 0 rfl (fun j h1 h2 => by
    have : j = k := by simp at h1 h2; omega
    rw [this]; exact h)
  exact ⟨o, h⟩
theorem has_iff {S : Nat → Bool} {k : Nat} : S k = true ↔ ∃ o, o ≤ 9 ∧ Mx S (k / 2 ^ o * 2 ^ o) o :=
  ⟨fun h => by obtain ⟨o, h⟩ := Mx.of h; exact ⟨o, h.le, h⟩, fun ⟨o, _, h⟩ => h.all k (fl_le k o) (fl_lt k o)⟩

/-- A run that was taken out of a set. -/
def less (S : Nat → Bool) (f o : Nat) : Nat → Bool := fun k => S k && !(decide (f ≤ k) && decide (k < f + 2 ^ o))
theorem less_iff {S : Nat → Bool} {f o k : Nat} : less S f o k = true ↔ S k = true ∧ ¬ (f ≤ k ∧ k < f + 2 ^ o) := by simp [less]; intro _; omega
/-- A run that was put in. -/
def more (S : Nat → Bool) (f o : Nat) : Nat → Bool := fun k => S k || (decide (f ≤ k) && decide (k < f + 2 ^ o))
theorem more_iff {S : Nat → Bool} {f o k : Nat} : more S f o k = true ↔ S k = true ∨ (f ≤ k ∧ k < f + 2 ^ o) := by simp [more]

theorem step_of {t o k : Nat} (h1 : 2 ^ o ≤ t) (h2 : t < 2 ^ k) : ∃ j, o ≤ j ∧ j < k ∧ 2 ^ j ≤ t ∧ t < 2 ^ (j + 1) := by
  induction k with
  | zero => have := pow_pos o; simp at h2; omega
  | succ k ih =>
    by_cases h : t < 2 ^ k
    · obtain ⟨j, a, b, c⟩ := ih h
      exact ⟨j, a, by omega, c⟩
    · refine ⟨k, ?_, by omega, by omega, h2⟩
      apply Classical.byContradiction
      intro hn
      have := pow_le (show k + 1 ≤ o by omega)
      omega

/-- Taking: which runs there are behind it. -/
theorem take_mx {S : Nat → Bool} {f k o : Nat} (h : Mx S f k) (hok : o ≤ k) (g p : Nat) : Mx (less S f o) g p ↔ (Mx S g p ∧ ¬ (g = f ∧ p = k)) ∨ ∃ j, o ≤ j ∧ j < k ∧ g = f + 2 ^ j ∧ p = j := by
  have hsub : ∀ z, less S f o z = true → S z = true := fun z hz => (less_iff.1 hz).1
  have hpo := pow_pos o
  have hok2 := pow_le hok
  constructor
  · intro hm
    have hpp := pow_pos p
    have hSg : S g = true := hsub g (hm.all g (Nat.le_refl _) (by omega))
    obtain ⟨q, hq⟩ := Mx.of hSg
    have hpq := hq.ge hm.al (hm.all.le hsub) hm.le (fl_le g q) (fl_lt g q) (Nat.le_refl g) (by omega)
    generalize hh : g / 2 ^ q * 2 ^ q = b at hq
    have hb1 : b ≤ g := hh ▸ fl_le g q
    have hb2 : g < b + 2 ^ q := hh ▸ fl_lt g q
    by_cases hc : b = f ∧ q = k
    · obtain ⟨rfl, rfl⟩ := hc
      right
      have n := nest hm.al h.al hpq (Nat.le_refl g) (by omega) hb1 hb2
      have hg : ¬ (b ≤ g ∧ g < b + 2 ^ o) := (less_iff.1 (hm.all g (Nat.le_refl _) (by omega))).2
      obtain ⟨j, j1, j2, j3, j4⟩ := step_of (t := g - b) (o := o) (k := q) (by omega) (by omega)
      have ej := pow_succ' j
      have hoj := pow_le j1
      have al2 : (b + 2 ^ j) % 2 ^ j = 0 := by rw [Nat.add_mod_right]; exact mod_le h.al (by omega)
      have all2 : All (less S b o) (b + 2 ^ j) j := fun z z1 z2 => less_iff.2 ⟨h.all z (by omega) (by have := pow_le (show j + 1 ≤ q by omega); omega), by omega⟩
      have g1 := hm.ge al2 all2 (by have := h.le; omega) (k := g) (Nat.le_refl g) (by omega) (by omega) (by omega)
      have g2 : p ≤ j := by
        apply Classical.byContradiction
        intro hn
        have hjp := pow_le (show j + 1 ≤ p by omega)
        have e1 := fl_eq (mod_le h.al hpq) hb1 (show g < b + 2 ^ p by omega)
        rw [al_form hm.al] at e1
        omega
      obtain rfl : p = j := by omega
      have e1 := fl_eq al2 (show b + 2 ^ p ≤ g by omega) (by omega)
      rw [al_form hm.al] at e1
      exact ⟨p, j1, j2, e1, rfl⟩
    · left
      have hdis : ∀ z, b ≤ z → z < b + 2 ^ q → ¬ (f ≤ z ∧ z < f + 2 ^ k) := fun z z1 z2 hz => hc (hq.unique h z1 z2 hz.1 hz.2)
      have hall : All (less S f o) b q := fun z z1 z2 => less_iff.2 ⟨hq.all z z1 z2, by have := hdis z z1 z2; omega⟩
      have hge := hm.ge hq.al hall hq.le (k := g) (Nat.le_refl g) (by omega) hb1 hb2
      obtain rfl : p = q := by omega
      have e1 : b = g := by rw [← hh]; exact al_form hm.al
      subst e1
      exact ⟨hq, hc⟩
  · rintro (⟨hm, hc⟩ | ⟨j, j1, j2, rfl, rfl⟩)
    · have hdis : ∀ z, g ≤ z → z < g + 2 ^ p → ¬ (f ≤ z ∧ z < f + 2 ^ k) := fun z z1 z2 hz => hc (hm.unique h z1 z2 hz.1 hz.2)
      exact ⟨hm.al, fun z z1 z2 => less_iff.2 ⟨hm.all z z1 z2, by have := hdis z z1 z2; omega⟩, hm.le, fun hp ha => hm.top hp (ha.le hsub)⟩
    · have ej := pow_succ' p
      have hoj := pow_le j1
      have hjk := pow_le (show p + 1 ≤ k by omega)
      refine ⟨by rw [Nat.add_mod_right]; exact mod_le h.al (by omega), fun z z1 z2 => less_iff.2 ⟨h.all z (by omega) (by omega), by omega⟩, by have := h.le; omega, fun _ ha => ?_⟩
      have eu : up (f + 2 ^ p) p = f := fl_eq (mod_le h.al (by omega)) (by omega) (by omega)
      rw [eu] at ha
      have := (less_iff.1 (ha f (Nat.le_refl _) (by omega))).2
      exact this ⟨Nat.le_refl _, by omega⟩

/-- Giving, under way: a run around what is given, all free behind it. -/
structure Giv (S : Nat → Bool) (f0 o0 f o : Nat) : Prop where
  al : f % 2 ^ o = 0
  le : o ≤ 9
  lo : f ≤ f0
  hi : f0 + 2 ^ o0 ≤ f + 2 ^ o
  all : All (more S f0 o0) f o

/-- The other half. -/
def bud (f o : Nat) : Nat := if up f o = f then f + 2 ^ o else f - 2 ^ o

theorem bud_al {f o : Nat} (h : f % 2 ^ o = 0) : bud f o % 2 ^ o = 0 ∧ up (bud f o) o = up f o ∧ ((bud f o = up f o ∧ f = up f o + 2 ^ o) ∨ (bud f o = up f o + 2 ^ o ∧ f = up f o)) := by
  have hp := pow_pos o
  have e := pow_succ' o
  have hu := up_half h
  have ha := up_al f o
  have ha2 := mod_le ha (Nat.le_succ o)
  unfold bud
  by_cases hc : up f o = f
  · rw [if_pos hc]
    refine ⟨by rw [Nat.add_mod_right]; exact h, ?_, .inr ⟨by rw [hc], hc.symm⟩⟩
    exact fl_eq ha (by omega) (by omega)
  · rw [if_neg hc]
    have e2 : f - 2 ^ o = up f o := by omega
    rw [e2]
    refine ⟨ha2, ?_, .inl ⟨rfl, by omega⟩⟩
    exact al_form ha

/-- What has been joined lies within the run; what is listed lies without. -/
def Lst (S : Nat → Bool) (f o g p : Nat) : Prop := Mx S g p ∧ ¬ (f ≤ g ∧ g + 2 ^ p ≤ f + 2 ^ o)

theorem Giv.start {S : Nat → Bool} {f o : Nat} (h : f % 2 ^ o = 0) (ho : o ≤ 9) : Giv S f o f o :=
  ⟨h, ho, Nat.le_refl _, Nat.le_refl _, fun _ k1 k2 => more_iff.2 (.inr ⟨k1, k2⟩)⟩
theorem lst_start {S : Nat → Bool} {f o : Nat} (hn : ∀ k, f ≤ k → k < f + 2 ^ o → S k = false) (g p : Nat) : Lst S f o g p ↔ Mx S g p := by
  refine ⟨fun h => h.1, fun h => ⟨h, fun hc => ?_⟩⟩
  have hp := pow_pos p
  have := h.all g (Nat.le_refl _) (by omega)
  rw [hn g hc.1 (by omega)] at this
  cases this

/-- The other half is listed: join. -/
theorem Giv.join {S : Nat → Bool} {f0 o0 f o : Nat} (h : Giv S f0 o0 f o) (hn : ∀ k, f0 ≤ k → k < f0 + 2 ^ o0 → S k = false) (ho : o < 9) (hb : Lst S f o (bud f o) o) :
    Giv S f0 o0 (up f o) (o + 1) ∧ ∀ g p, Lst S (up f o) (o + 1) g p ↔ (Lst S f o g p ∧ ¬ (g = bud f o ∧ p = o)) := by
  have hp := pow_pos o
  have hp0 := pow_pos o0
  have e := pow_succ' o
  obtain ⟨ba, bu, bc⟩ := bud_al h.al
  have hlo := h.lo
  have hhi := h.hi
  have hS0 : S f0 = false := hn f0 (Nat.le_refl _) (by omega)
  refine ⟨⟨up_al f o, by omega, by omega, by omega, fun k k1 k2 => ?_⟩, fun g p => ?_⟩
  · by_cases hk : f ≤ k ∧ k < f + 2 ^ o
    · exact h.all k hk.1 hk.2
    · exact more_iff.2 (.inl (hb.1.all k (by omega) (by omega)))
  · constructor
    · rintro ⟨hm, hc⟩
      refine ⟨⟨hm, fun h1 => hc ⟨by omega, by omega⟩⟩, ?_⟩
      rintro ⟨rfl, rfl⟩
      exact hc ⟨by omega, by omega⟩
    · rintro ⟨⟨hm, h1⟩, h2⟩
      refine ⟨hm, fun hc => ?_⟩
      have hpp := pow_pos p
      have hpo : p ≤ o := by
        apply Classical.byContradiction
        intro hgt
        have hle := pow_le (show o + 1 ≤ p by omega)
        have := hm.all f0 (by omega) (by omega)
        rw [hS0] at this; cases this
      by_cases hf : f ≤ g ∧ g < f + 2 ^ o
      · have n := nest hm.al h.al hpo (Nat.le_refl g) (by omega) hf.1 hf.2
        exact h1 ⟨n.1, n.2⟩
      · have := hm.unique hb.1 (Nat.le_refl g) (by omega) (by omega) (by omega)
        exact h2 this

/-- It is not, or there is no greater order: what is listed then, with the run, are the greatest runs. -/
theorem Giv.done {S : Nat → Bool} {f0 o0 f o : Nat} (h : Giv S f0 o0 f o) (hn : ∀ k, f0 ≤ k → k < f0 + 2 ^ o0 → S k = false) (hb : o < 9 → ¬ Lst S f o (bud f o) o) (g p : Nat) :
    Mx (more S f0 o0) g p ↔ Lst S f o g p ∨ (g = f ∧ p = o) := by
  have hp := pow_pos o
  have hp0 := pow_pos o0
  have e := pow_succ' o
  obtain ⟨ba, bu, bc⟩ := bud_al h.al
  have hlo := h.lo
  have hhi := h.hi
  have hS0 : S f0 = false := hn f0 (Nat.le_refl _) (by omega)
  have hsub : ∀ z, S z = true → more S f0 o0 z = true := fun z hz => more_iff.2 (.inl hz)
  have hout : ∀ z, more S f0 o0 z = true → ¬ (f ≤ z ∧ z < f + 2 ^ o) → S z = true := fun z hz hf => by
    rcases more_iff.1 hz with h1 | h1
    · exact h1
    · omega
  have hself : Mx (more S f0 o0) f o := by
    refine ⟨h.al, h.all, h.le, fun ho ha => hb ho ⟨⟨ba, fun k k1 k2 => hout k (ha k (by omega) (by omega)) (by omega), h.le, fun _ ha2 => ?_⟩, fun hc => by omega⟩⟩
    rw [bu] at ha2
    have := ha2 f0 (by omega) (by omega)
    rw [hS0] at this; cases this
  constructor
  · intro hm
    by_cases hc : g = f ∧ p = o
    · exact .inr hc
    · left
      have hdis : ∀ z, g ≤ z → z < g + 2 ^ p → ¬ (f ≤ z ∧ z < f + 2 ^ o) := fun z z1 z2 hz => hc (hm.unique hself z1 z2 hz.1 hz.2)
      have hpp := pow_pos p
      refine ⟨⟨hm.al, fun z z1 z2 => hout z (hm.all z z1 z2) (hdis z z1 z2), hm.le, fun hp9 ha => hm.top hp9 (ha.le hsub)⟩, fun h1 => ?_⟩
      exact hdis g (Nat.le_refl _) (by omega) ⟨h1.1, by omega⟩
  · rintro (⟨hm, h1⟩ | ⟨rfl, rfl⟩)
    · have hpp := pow_pos p
      refine ⟨hm.al, hm.all.le hsub, hm.le, fun hp9 ha => ?_⟩
      by_cases hov : ∃ z, up g p ≤ z ∧ z < up g p + 2 ^ (p + 1) ∧ f ≤ z ∧ z < f + 2 ^ o
      · obtain ⟨z, z1, z2, z3, z4⟩ := hov
        have k1 := hself.ge (up_al g p) ha (by omega) z3 z4 z1 z2
        have n := nest (up_al g p) h.al k1 z1 z2 z3 z4
        have n2 := nest hm.al (up_al g p) (Nat.le_succ p) (Nat.le_refl g) (by omega) (fl_le g (p + 1)) (fl_lt g (p + 1))
        exact h1 ⟨by omega, by omega⟩
      · exact hm.top hp9 (fun z z1 z2 => hout z (ha z z1 z2) (fun hz => hov ⟨z, z1, z2, hz.1, hz.2⟩))
    · exact hself

/-- A place that no run goes beyond. -/
def Cut (S : Nat → Bool) (at_ : Nat) : Prop := ∀ g p, g % 2 ^ p = 0 → p ≤ 9 → All S g p → g < at_ → g + 2 ^ p ≤ at_

/-- The greedy order at such a place. -/
structure Grd (S : Nat → Bool) (f o : Nat) : Prop where
  al : f % 2 ^ o = 0
  all : All S f o
  le : o ≤ 9

theorem Grd.start {S : Nat → Bool} {f : Nat} (h : S f = true) : Grd S f 0 :=
  ⟨by simp [Nat.mod_one], fun k k1 k2 => by
    have : k = f := by simp at k2; omega
    rw [this]; exact h, by omega⟩

theorem Grd.done {S : Nat → Bool} {f o : Nat} (h : Grd S f o) (hc : Cut S f) (hs : o < 9 → ¬ (f % 2 ^ (o + 1) = 0 ∧ All S f (o + 1))) : Mx S f o ∧ Cut S (f + 2 ^ o) := by
  have hp := pow_pos o
  have e := pow_succ' o
  have hm : Mx S f o := by
    refine ⟨h.al, h.all, h.le, fun ho ha => ?_⟩
    rcases up_half h.al with h1 | h1
    · rw [h1] at ha
      exact hs ho ⟨by rw [← h1]; exact up_al f o, ha⟩
    · have := hc (up f o) (o + 1) (up_al f o) (by omega) ha (by omega)
      omega
  refine ⟨hm, fun g p hg hp9 ha hlt => ?_⟩
  have hpp := pow_pos p
  by_cases hgf : g < f
  · have := hc g p hg hp9 ha hgf
    omega
  · have k1 := hm.ge hg ha hp9 (k := g) (by omega) hlt (Nat.le_refl g) (by omega)
    have n := nest hg h.al k1 (Nat.le_refl g) (by omega) (by omega) hlt
    omega

theorem Cut.skip {S : Nat → Bool} {f : Nat} (hc : Cut S f) (h : S f = false) : Cut S (f + 1) := fun g p hg hp9 ha hlt => by
  have hpp := pow_pos p
  by_cases hgf : g < f
  · have := hc g p hg hp9 ha hgf
    omega
  · have hgf2 : g = f := by omega
    subst hgf2
    have := ha g (Nat.le_refl _) (by omega)
    rw [h] at this; cases this

theorem Cut.first {S : Nat → Bool} {f : Nat} (h : ∀ k, k < f → S k = false) : Cut S f := fun g p hg hp9 ha hlt => by
  have hpp := pow_pos p
  have := ha g (Nat.le_refl _) (by omega)
  rw [h g hlt] at this; cases this
end Go.Proofs.Ytmmjkebhcihjlaa.Bud
