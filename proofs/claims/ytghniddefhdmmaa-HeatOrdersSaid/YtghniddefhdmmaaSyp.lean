/- Plain laws beneath symMerge: two stretches in order, merged by a rotation and two lesser merges; K tells what goes ahead. -/
import Derived.Test.YtghniddefhdmmaaRot
namespace Go.Proofs.Ytghniddefhdmmaa

/-- In order by K. -/
def KS (K : Int → Int) (d : List Int) (a b : Nat) : Prop := ∀ p q, a ≤ p → p < q → q < b → K (ele d p) ≤ K (ele d q)

theorem KS.of {K : Int → Int} {d : List Int} {a b : Nat} (h : Srtd (d.map K) a b) (hb : b ≤ d.length) : KS K d a b := fun p q h1 h2 h3 => by
  have := h p q h1 h2 h3
  rw [ele_map (by omega), ele_map (by omega)] at this
  exact this
theorem KS.to {K : Int → Int} {d : List Int} {a b : Nat} (h : KS K d a b) (hb : b ≤ d.length) : Srtd (d.map K) a b := fun p q h1 h2 h3 => by
  rw [ele_map (by omega), ele_map (by omega)]
  exact h p q h1 h2 h3
theorem KS.le {K : Int → Int} {d : List Int} {a b p q : Nat} (h : KS K d a b) (h1 : a ≤ p) (h2 : p ≤ q) (h3 : q < b) : K (ele d p) ≤ K (ele d q) := by
  by_cases e : p = q
  · rw [e]; exact Int.le_refl _
  · exact h p q h1 (by omega) h3

/-- Two stretches in order; what stands in the left one is the lesser place. -/
structure Sm (K : Int → Int) (d : List Int) (a m b : Nat) : Prop where
  lo : KS K d a m
  hi : KS K d m b
  cross : ∀ p q, a ≤ p → p < m → m ≤ q → q < b → ele d p < ele d q

/-- The search for the middle. -/
structure Sch (K : Int → Int) (d : List Int) (l0 h0 p0 s r : Nat) : Prop where
  ls : l0 ≤ s
  sr : s ≤ r
  rh : r ≤ h0
  low : ∀ c, l0 ≤ c → c < s → K (ele d c) ≤ K (ele d (p0 - c))
  high : ∀ c, r ≤ c → c < h0 → K (ele d (p0 - c)) < K (ele d c)

theorem Sch.start (K : Int → Int) (d : List Int) (l0 h0 p0 : Nat) (h : l0 ≤ h0) : Sch K d l0 h0 p0 l0 h0 :=
  ⟨Nat.le_refl _, h, Nat.le_refl _, fun c h1 h2 => by omega, fun c h1 h2 => by omega⟩

theorem Sch.up {K : Int → Int} {d : List Int} {a m b l0 h0 p0 s r c : Nat} (h : Sch K d l0 h0 p0 s r) (hs : Sm K d a m b) (hl : a ≤ l0) (hh : h0 ≤ m) (hp1 : ∀ x, l0 ≤ x → x < h0 → m ≤ p0 - x ∧ p0 - x < b ∧ x ≤ p0) (h1 : s ≤ c) (h2 : c < r) (hc : K (ele d c) ≤ K (ele d (p0 - c))) : Sch K d l0 h0 p0 (c + 1) r := by
  obtain ⟨e1, e2, e3, e4, e5⟩ := h
  refine ⟨by omega, by omega, e3, fun x x1 x2 => ?_, e5⟩
  have k1 := hs.lo.le (p := x) (q := c) (by omega) (by omega) (by omega)
  have k2 := hs.hi.le (p := p0 - c) (q := p0 - x) (hp1 c (by omega) (by omega)).1 (by omega) (hp1 x x1 (by omega)).2.1
  omega
theorem Sch.down {K : Int → Int} {d : List Int} {a m b l0 h0 p0 s r c : Nat} (h : Sch K d l0 h0 p0 s r) (hs : Sm K d a m b) (hl : a ≤ l0) (hh : h0 ≤ m) (hp1 : ∀ x, l0 ≤ x → x < h0 → m ≤ p0 - x ∧ p0 - x < b ∧ x ≤ p0) (h1 : s ≤ c) (h2 : c < r) (hc : K (ele d (p0 - c)) < K (ele d c)) : Sch K d l0 h0 p0 s c := by
  obtain ⟨e1, e2, e3, e4, e5⟩ := h
  refine ⟨e1, h1, by omega, e4, fun x x1 x2 => ?_⟩
  have k1 := hs.lo.le (p := c) (q := x) (by omega) (by omega) (by omega)
  have k2 := hs.hi.le (p := p0 - x) (q := p0 - c) (hp1 x (by omega) (by omega)).1 (by omega) (hp1 c (by omega) (by omega)).2.1
  omega

theorem Rot.same {d : List Int} {a m b : Nat} (h : a = m ∨ m = b) (hab : a ≤ m) (hmb : m ≤ b) : Rot d a m b d := by
  intro x
  repeat' split
  all_goals exact congrArg (ele d) (by omega)

/-- What a rotation leaves where. -/
theorem Rot.l1 {d d' : List Int} {a m b x : Nat} (h : Rot d a m b d') (hx : x < a ∨ b ≤ x) (hm : a ≤ m ∧ m ≤ b) : ele d' x = ele d x := by
  rw [h x, if_neg (by omega), if_neg (by omega)]
theorem Rot.r1 {d d' : List Int} {a m b x : Nat} (h : Rot d a m b d') (h1 : a ≤ x) (h2 : x < a + (b - m)) : ele d' x = ele d (x - a + m) := by
  rw [h x, if_pos ⟨h1, h2⟩]
theorem Rot.l2 {d d' : List Int} {a m b x : Nat} (h : Rot d a m b d') (h1 : a + (b - m) ≤ x) (h2 : x < b) : ele d' x = ele d (x - (b - m)) := by
  rw [h x, if_neg (by omega), if_pos ⟨h1, h2⟩]

/-- Behind the rotation: two lesser merges. -/
theorem Sm.left {K : Int → Int} {d d' : List Int} {a m b s t e : Nat} (h : Sm K d a m b) (hr : Rot d s m e d') (_h1 : a ≤ s) (h2 : s ≤ m) (h3 : m ≤ e) (h4 : e ≤ b) (ht : t = s + (e - m)) : Sm K d' a s t := by
  refine ⟨fun p q p1 p2 p3 => ?_, fun p q p1 p2 p3 => ?_, fun p q p1 p2 p3 p4 => ?_⟩
  · rw [hr.l1 (by omega) ⟨h2, h3⟩, hr.l1 (by omega) ⟨h2, h3⟩]; exact h.lo p q p1 p2 (by omega)
  · rw [hr.r1 (by omega) (by omega), hr.r1 (by omega) (by omega)]; exact h.hi _ _ (by omega) (by omega) (by omega)
  · rw [hr.l1 (by omega) ⟨h2, h3⟩, hr.r1 (by omega) (by omega)]; exact h.cross _ _ p1 (by omega) (by omega) (by omega)
theorem Sm.right {K : Int → Int} {d d' : List Int} {a m b s t e : Nat} (h : Sm K d a m b) (hr : Rot d s m e d') (h1 : a ≤ s) (h2 : s ≤ m) (h3 : m ≤ e) (_h4 : e ≤ b) (ht : t = s + (e - m)) : Sm K d' t e b := by
  refine ⟨fun p q p1 p2 p3 => ?_, fun p q p1 p2 p3 => ?_, fun p q p1 p2 p3 p4 => ?_⟩
  · rw [hr.l2 (by omega) (by omega), hr.l2 (by omega) (by omega)]; exact h.lo _ _ (by omega) (by omega) (by omega)
  · rw [hr.l1 (by omega) ⟨h2, h3⟩, hr.l1 (by omega) ⟨h2, h3⟩]; exact h.hi _ _ (by omega) (by omega) (by omega)
  · rw [hr.l2 (by omega) (by omega), hr.l1 (by omega) ⟨h2, h3⟩]; exact h.cross _ _ (by omega) (by omega) (by omega) (by omega)

/-- Behind the rotation: what stands left of t is not greater than what stands right of it. -/
theorem Sm.mid {K : Int → Int} {d d' : List Int} {a m b s t e : Nat} (h : Sm K d a m b) (hr : Rot d s m e d') (h1 : a ≤ s) (h2 : s ≤ m) (h3 : m ≤ e) (h4 : e ≤ b) (ht : t = s + (e - m))
    (hlow : a < s → e < b → K (ele d (s - 1)) ≤ K (ele d e)) (hhigh : s < m → m < e → K (ele d (e - 1)) < K (ele d s)) :
    ∀ p q, a ≤ p → p < t → t ≤ q → q < b → K (ele d' p) ≤ K (ele d' q) := by
  intro p q p1 p2 p3 p4
  by_cases hp : p < s
  · rw [hr.l1 (x := p) (by omega) ⟨h2, h3⟩]
    by_cases hq : q < e
    · rw [hr.l2 (by omega) (by omega)]; exact h.lo.le (by omega) (by omega) (by omega)
    · rw [hr.l1 (by omega) ⟨h2, h3⟩]
      have k1 := h.lo.le (p := p) (q := s - 1) (by omega) (by omega) (by omega)
      have k2 := h.hi.le (p := e) (q := q) (by omega) (by omega) (by omega)
      have := hlow (by omega) (by omega)
      omega
  · rw [hr.r1 (x := p) (by omega) (by omega)]
    by_cases hq : q < e
    · rw [hr.l2 (by omega) (by omega)]
      have k1 := h.hi.le (p := p - s + m) (q := e - 1) (by omega) (by omega) (by omega)
      have k2 := h.lo.le (p := s) (q := q - (e - m)) (by omega) (by omega) (by omega)
      have := hhigh (by omega) (by omega)
      omega
    · rw [hr.l1 (by omega) ⟨h2, h3⟩]; exact h.hi.le (by omega) (by omega) (by omega)

/-- Both lesser merges are done. -/
theorem ks_join {K : Int → Int} {d1 d2 d3 : List Int} {a t b : Nat} (hx : ∀ p q, a ≤ p → p < t → t ≤ q → q < b → K (ele d1 p) ≤ K (ele d1 q)) (h12 : Seg d1 d2 a t) (h23 : Seg d2 d3 t b) (hs2 : KS K d2 a t) (hs3 : KS K d3 t b) (hb : b ≤ d1.length) : KS K d3 a b := by
  intro p q p1 p2 p3
  by_cases hq : q < t
  · rw [h23.out p (by omega), h23.out q (by omega)]; exact hs2 p q p1 p2 hq
  · by_cases hp : p < t
    · rw [h23.out p (.inl hp)]
      have hl2 : d2.length = d1.length := h12.len
      refine h23.all (by omega) (p := fun x => K (ele d2 p) ≤ K x) (fun k k1 k2 => ?_) q (by omega) p3
      rw [h12.out k (by omega)]
      exact h12.all (by omega) (p := fun x => K x ≤ K (ele d1 k)) (fun j j1 j2 => hx j k j1 j2 k1 k2) p p1 hp
    · exact hs3 p q (by omega) p2 p3

/-- One goes up to where it belongs. -/
theorem sm_one_up {K : Int → Int} {d d' : List Int} {a b i : Nat} (h : Sm K d a (a + 1) b) (hr : Rot d a (a + 1) i d') (h1 : a + 1 ≤ i) (h2 : i ≤ b) (hlow : ∀ q, a + 1 ≤ q → q < i → K (ele d q) < K (ele d a)) (hhigh : ∀ q, i ≤ q → q < b → K (ele d a) ≤ K (ele d q)) : KS K d' a b := by
  intro p q p1 p2 p3
  by_cases hp : i ≤ p
  · rw [hr.l1 (.inr hp) ⟨by omega, h1⟩, hr.l1 (.inr (by omega)) ⟨by omega, h1⟩]; exact h.hi.le (by omega) (by omega) p3
  · by_cases hq : i ≤ q
    · rw [hr.l1 (x := q) (.inr hq) ⟨by omega, h1⟩]
      by_cases e : p = i - 1
      · rw [hr.l2 (by omega) (by omega), show p - (i - (a + 1)) = a by omega]; exact hhigh q hq p3
      · rw [hr.r1 p1 (by omega)]
        exact h.hi.le (by omega) (by omega) p3
    · rw [hr.r1 (x := p) p1 (by omega)]
      by_cases e : q = i - 1
      · rw [hr.l2 (by omega) (by omega), show q - (i - (a + 1)) = a by omega]
        exact Int.le_of_lt (hlow _ (by omega) (by omega))
      · rw [hr.r1 (x := q) (by omega) (by omega)]; exact h.hi.le (by omega) (by omega) (by omega)

/-- One goes down to where it belongs. -/
theorem sm_one_down {K : Int → Int} {d d' : List Int} {a m i : Nat} (h : Sm K d a m (m + 1)) (hr : Rot d i m (m + 1) d') (h1 : a ≤ i) (h2 : i ≤ m) (hlow : ∀ q, a ≤ q → q < i → K (ele d q) ≤ K (ele d m)) (hhigh : ∀ q, i ≤ q → q < m → K (ele d m) < K (ele d q)) : KS K d' a (m + 1) := by
  intro p q p1 p2 p3
  by_cases hp : p < i
  · rw [hr.l1 (x := p) (.inl hp) ⟨h2, by omega⟩]
    by_cases hq : q < i
    · rw [hr.l1 (x := q) (.inl hq) ⟨h2, by omega⟩]; exact h.lo.le p1 (by omega) (by omega)
    · by_cases e : q = i
      · rw [hr.r1 (by omega) (by omega), show q - i + m = m by omega]; exact hlow p p1 hp
      · rw [hr.l2 (by omega) (by omega)]; exact h.lo.le p1 (by omega) (by omega)
  · by_cases e : p = i
    · rw [hr.r1 (x := p) (by omega) (by omega), show p - i + m = m by omega, hr.l2 (by omega) (by omega)]
      exact Int.le_of_lt (hhigh _ (by omega) (by omega))
    · rw [hr.l2 (x := p) (by omega) (by omega), hr.l2 (by omega) (by omega)]; exact h.lo.le (by omega) (by omega) (by omega)

/-- The rotations grow by an exchange. -/
theorem Rot.up {d d' : List Int} {a k : Nat} (h : Rot d a (a + 1) (k + 1) d') (hak : a ≤ k) (hk : k + 1 < d'.length) : Rot d a (a + 1) (k + 2) (swp d' k (k + 1)) := by
  intro x
  rw [swp_ele (by omega) (by omega)]
  simp only [h _]
  repeat' split
  all_goals exact congrArg (ele d) (by omega)
theorem Rot.down {d d' : List Int} {m k : Nat} (h : Rot d k m (m + 1) d') (hk : 0 < k) (hkm : k ≤ m) (hm : m < d'.length) : Rot d (k - 1) m (m + 1) (swp d' k (k - 1)) := by
  intro x
  rw [swp_ele (by omega) (by omega)]
  simp only [h _]
  repeat' split
  all_goals exact congrArg (ele d) (by omega)
end Go.Proofs.Ytghniddefhdmmaa
