/- Plain laws beneath pdqsort: what a stretch that was moved about keeps; what is left to sort. -/
import Derived.Test.YtghniddefhdmmaaSrt
import Derived.Test.YtghniddefhdmmaaHeap
namespace Go.Proofs.Ytghniddefhdmmaa

/-- The elements of a stretch, as a list. -/
def mid (d : List Int) (a b : Nat) : List Int := (d.drop a).take (b - a)

theorem mid_mem {d : List Int} {a b : Nat} (hb : b ≤ d.length) (x : Int) : x ∈ mid d a b ↔ ∃ k, a ≤ k ∧ k < b ∧ ele d k = x := by
  unfold mid
  rw [List.mem_iff_getElem?]
  constructor
  · rintro ⟨i, hi⟩
    rw [List.getElem?_take] at hi
    split at hi
    · rename_i h
      rw [List.getElem?_drop] at hi
      refine ⟨a + i, by omega, by omega, ?_⟩
      unfold ele
      rw [List.getD_eq_getElem?_getD, hi]; rfl
    · cases hi
  · rintro ⟨k, h1, h2, h3⟩
    refine ⟨k - a, ?_⟩
    rw [List.getElem?_take, if_pos (by omega), List.getElem?_drop, show a + (k - a) = k by omega, ele_some (by omega), h3]

theorem mid_split {d : List Int} {a b : Nat} (ha : a ≤ b) : d.take a ++ (mid d a b ++ d.drop b) = d := by
  unfold mid
  rw [show d.drop b = (d.drop a).drop (b - a) by rw [List.drop_drop, show a + (b - a) = b by omega], List.take_append_drop, List.take_append_drop]

theorem Seg.mid_perm {d d' : List Int} {a b : Nat} (h : Seg d d' a b) (hab : a ≤ b) (hb : b ≤ d.length) : (mid d' a b).Perm (mid d a b) := by
  have hl := h.len
  have e1 : d'.take a = d.take a := by
    apply List.ext_getElem?
    intro i
    rw [List.getElem?_take, List.getElem?_take]
    split
    · rename_i hi
      rw [ele_some (by omega), ele_some (by omega), h.out i (.inl hi)]
    · rfl
  have e2 : d'.drop b = d.drop b := by
    apply List.ext_getElem?
    intro i
    rw [List.getElem?_drop, List.getElem?_drop]
    by_cases hi : b + i < d.length
    · rw [ele_some (by omega), ele_some (by omega), h.out _ (.inr (by omega))]
    · rw [List.getElem?_eq_none (by omega), List.getElem?_eq_none (by omega)]
  have hp := h.perm
  rw [← mid_split (d := d') hab, ← mid_split (d := d) hab, e1, e2, List.perm_append_left_iff, List.perm_append_right_iff] at hp
  exact hp

/-- What is so of all of a stretch stays so. -/
theorem Seg.all {d d' : List Int} {a b : Nat} (h : Seg d d' a b) (hb : b ≤ d.length) {p : Int → Prop} (hp : ∀ k, a ≤ k → k < b → p (ele d k)) : ∀ k, a ≤ k → k < b → p (ele d' k) := by
  intro k h1 h2
  have hm : ele d' k ∈ mid d' a b := (mid_mem (by rw [h.len]; exact hb) _).2 ⟨k, h1, h2, rfl⟩
  rw [(h.mid_perm (by omega) hb).mem_iff, mid_mem hb] at hm
  obtain ⟨j, h3, h4, h5⟩ := hm
  rw [← h5]; exact hp j h3 h4

/-- Of a stretch, all but what lies between a' and b' is in order. -/
def Rest (d : List Int) (a b a' b' : Nat) : Prop := ∀ p q, a ≤ p → p < q → q < b → (p < a' ∨ b' ≤ q) → ele d p ≤ ele d q

theorem Rest.start (d : List Int) (a b : Nat) : Rest d a b a b := fun p q h1 h2 h3 h4 => by omega

theorem Rest.seg {d d' : List Int} {a b a' b' : Nat} (h : Rest d a b a' b') (hs : Seg d d' a' b') (ha : a ≤ a') (hb' : b' ≤ b) (hb : b ≤ d.length) : Rest d' a b a' b' := by
  intro p q h1 h2 h3 h4
  rcases Nat.lt_or_ge p a' with hp | hp
  · rw [hs.out p (.inl hp)]
    by_cases hq : a' ≤ q ∧ q < b'
    · exact hs.all (by omega) (p := fun x => ele d p ≤ x) (fun k k1 k2 => h p k h1 (by omega) (by omega) (.inl hp)) q hq.1 hq.2
    · rw [hs.out q (by omega)]; exact h p q h1 h2 h3 (.inl hp)
  · have hq : b' ≤ q := by omega
    rw [hs.out q (.inr hq)]
    by_cases hp2 : p < b'
    · exact hs.all (by omega) (p := fun x => x ≤ ele d q) (fun k k1 k2 => h k q (by omega) (by omega) h3 (.inr hq)) p hp hp2
    · rw [hs.out p (by omega)]; exact h p q h1 h2 h3 (.inr hq)

theorem Rest.done {d : List Int} {a b a' b' : Nat} (h : Rest d a b a' b') (hs : Srtd d a' b') : Srtd d a b := by
  intro p q h1 h2 h3
  by_cases h4 : p < a' ∨ b' ≤ q
  · exact h p q h1 h2 h3 h4
  · exact hs p q (by omega) h2 (by omega)

/-- Behind a partition whose left part was sorted. -/
theorem Rest.left {d : List Int} {a b a' b' m : Nat} (h : Rest d a b a' b') (hs : Srtd d a' m) (hlo : ∀ k, a' ≤ k → k < m → ele d k ≤ ele d m) (hhi : ∀ k, m < k → k < b' → ele d m ≤ ele d k) : Rest d a b (m + 1) b' := by
  intro p q h1 h2 h3 h4
  by_cases h5 : p < a' ∨ b' ≤ q
  · exact h p q h1 h2 h3 h5
  · rcases Nat.lt_or_ge q m with hq | hq
    · exact hs p q (by omega) h2 hq
    · have e1 : ele d p ≤ ele d m := by
        by_cases e : p = m
        · rw [e]; exact Int.le_refl _
        · exact hlo p (by omega) (by omega)
      have e2 : ele d m ≤ ele d q := by
        by_cases e : q = m
        · rw [e]; exact Int.le_refl _
        · exact hhi q (by omega) (by omega)
      omega

/-- Behind a partition whose right part was sorted. -/
theorem Rest.right {d : List Int} {a b a' b' m : Nat} (h : Rest d a b a' b') (hs : Srtd d (m + 1) b') (hlo : ∀ k, a' ≤ k → k < m → ele d k ≤ ele d m) (hhi : ∀ k, m < k → k < b' → ele d m ≤ ele d k) : Rest d a b a' m := by
  intro p q h1 h2 h3 h4
  by_cases h5 : p < a' ∨ b' ≤ q
  · exact h p q h1 h2 h3 h5
  · rcases Nat.lt_or_ge m p with hp | hp
    · exact hs p q (by omega) h2 (by omega)
    · have e1 : ele d p ≤ ele d m := by
        by_cases e : p = m
        · rw [e]; exact Int.le_refl _
        · exact hlo p (by omega) (by omega)
      have e2 : ele d m ≤ ele d q := by
        by_cases e : q = m
        · rw [e]; exact Int.le_refl _
        · exact hhi q (by omega) (by omega)
      omega

/-- Behind a partition into what is like the pivot, and greater. -/
theorem Rest.equal {d : List Int} {a b a' b' i : Nat} {pv : Int} (h : Rest d a b a' b') (hlb : ∀ k, a' ≤ k → k < b' → pv ≤ ele d k) (hlo : ∀ k, a' ≤ k → k < i → ele d k ≤ pv) : Rest d a b i b' := by
  intro p q h1 h2 h3 h4
  by_cases h5 : p < a' ∨ b' ≤ q
  · exact h p q h1 h2 h3 h5
  · have e1 := hlo p (by omega) (by omega)
    have e2 := hlb q (by omega) (by omega)
    omega

/-- Nothing of a stretch is less than what stands ahead of it. -/
def Low (d : List Int) (a b : Nat) : Prop := ∀ k, 0 < a → a ≤ k → k < b → ele d (a - 1) ≤ ele d k

theorem Low.seg {d d' : List Int} {a b : Nat} (h : Low d a b) (hs : Seg d d' a b) (hb : b ≤ d.length) : Low d' a b := by
  intro k h0 h1 h2
  rw [hs.out (a - 1) (.inl (by omega))]
  exact hs.all hb (p := fun x => ele d (a - 1) ≤ x) (fun j j1 j2 => h j h0 j1 j2) k h1 h2

/-- Of the way that is left. -/
theorem Rest.low {d : List Int} {a b a' b' : Nat} (h : Rest d a b a' b') (hl : Low d a b) (ha : a ≤ a') (hb : b' ≤ b) : Low d a' b' := by
  intro k h0 h1 h2
  rcases Nat.lt_or_ge a a' with hlt | hge
  · exact h (a' - 1) k (by omega) (by omega) (by omega) (.inl (by omega))
  · have e : a' = a := by omega
    subst e
    exact hl k h0 h1 (by omega)

/-- The sort by a heap: t are in the heap, the rest behind them is in order and greater. -/
structure Hps (d : List Int) (a b t : Nat) : Prop where
  heap : Heap d a t 0
  rest : Rest d a b a (a + t)

theorem Hps.swap {d : List Int} {a b t : Nat} (h : Hps d a b (t + 1)) (hb : b ≤ d.length) (htb : a + t < b) : Heap (swp d a (a + t)) a t 1 ∧ Rest (swp d a (a + t)) a b a (a + t) := by
  have hs := fun k => swp_ele (d := d) (i := a) (j := a + t) (by omega) (by omega) k
  have sl : ele (swp d a (a + t)) (a + t) = ele d a := by rw [hs, if_pos rfl]
  have so : ∀ c, 0 < c → c < t → ele (swp d a (a + t)) (a + c) = ele d (a + c) := fun c h1 h2 => by rw [hs, if_neg (by omega : ¬ a + c = a + t), if_neg (by omega : ¬ a + c = a)]
  refine ⟨fun c h1 h2 h3 => ?_, fun p q h1 h2 h3 h4 => ?_⟩
  · rw [so c h1 h2, so _ (by omega) (by omega)]
    exact h.heap c h1 (by omega) (Nat.zero_le _)
  · have hseg : Seg d (swp d a (a + t)) a (a + (t + 1)) := (Seg.refl d a (a + (t + 1))).swp ⟨by omega, by omega⟩ ⟨by omega, by omega⟩ (by omega)
    have hr := h.rest.seg hseg (Nat.le_refl _) (by omega) hb
    by_cases h5 : a + (t + 1) ≤ q
    · exact hr p q h1 h2 h3 (.inr h5)
    · have e : q = a + t := by omega
      rw [e, sl]
      have htop : ∀ c, c < t + 1 → ele d (a + c) ≤ ele d a := fun c hc => h.heap.top c hc
      by_cases hp : p = a
      · rw [hp, hs]
        split
        · exact Int.le_refl _
        · rw [if_pos rfl]; exact htop t (by omega)
      · obtain ⟨c, rfl⟩ : ∃ c, p = a + c := ⟨p - a, by omega⟩
        rw [so c (by omega) (by omega)]
        exact htop c (by omega)

theorem Hps.done {d : List Int} {a b : Nat} (h : Hps d a b 0) : Srtd d a b := fun p q h1 h2 h3 => h.rest p q h1 h2 h3 (.inr (by omega))
end Go.Proofs.Ytghniddefhdmmaa
