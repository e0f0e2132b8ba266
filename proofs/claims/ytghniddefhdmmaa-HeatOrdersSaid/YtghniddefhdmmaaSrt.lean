/- Sorting a stretch of a list by exchanges: the plain law. -/
import Derived.Test.YtghniddefhdmmaaMem
namespace Go.Proofs.Ytghniddefhdmmaa

/-- The element at a place. -/
def ele (d : List Int) (k : Nat) : Int := d.getD k 0

theorem ele_some {d : List Int} {k : Nat} (h : k < d.length) : d[k]? = some (ele d k) := by
  unfold ele; rw [List.getD_eq_getElem?_getD, List.getElem?_eq_getElem h]; rfl

/-- Two places exchanged. -/
def swp (d : List Int) (i j : Nat) : List Int := (d.set i (ele d j)).set j (ele d i)

theorem swp_len (d : List Int) (i j : Nat) : (swp d i j).length = d.length := by unfold swp; simp

theorem swp_ele {d : List Int} {i j : Nat} (hi : i < d.length) (hj : j < d.length) (k : Nat) : ele (swp d i j) k = if k = j then ele d i else if k = i then ele d j else ele d k := by
  have e : (swp d i j)[k]? = if k = j then some (ele d i) else if k = i then some (ele d j) else d[k]? := by
    unfold swp
    rw [List.getElem?_set, List.length_set]
    by_cases h1 : j = k
    · subst h1; rw [if_pos rfl, if_pos hj, if_pos rfl]
    · rw [if_neg h1, if_neg (Ne.symm h1), List.getElem?_set]
      by_cases h2 : i = k
      · subst h2; rw [if_pos rfl, if_pos hi, if_pos rfl]
      · rw [if_neg h2, if_neg (Ne.symm h2)]
  show (swp d i j).getD k 0 = _
  rw [List.getD_eq_getElem?_getD, e]
  split
  · rfl
  · split
    · rfl
    · show _ = d.getD k 0; rw [List.getD_eq_getElem?_getD]

theorem swp_perm {d : List Int} {i j : Nat} (hi : i < d.length) (hj : j < d.length) : (swp d i j).Perm d := by
  have h := List.set_set_perm (as := d) hi hj
  unfold swp
  have e1 : ele d j = d[j] := by unfold ele; rw [List.getD_eq_getElem?_getD, List.getElem?_eq_getElem hj]; rfl
  have e2 : ele d i = d[i] := by unfold ele; rw [List.getD_eq_getElem?_getD, List.getElem?_eq_getElem hi]; rfl
  rw [e1, e2]
  exact h

/-- A stretch of d was moved about: all else is as it was. -/
structure Seg (d d' : List Int) (a b : Nat) : Prop where
  perm : d'.Perm d
  out : ∀ k, k < a ∨ b ≤ k → ele d' k = ele d k

theorem Seg.refl (d : List Int) (a b : Nat) : Seg d d a b := ⟨List.Perm.refl _, fun _ _ => rfl⟩
theorem Seg.len {d d' : List Int} {a b : Nat} (h : Seg d d' a b) : d'.length = d.length := h.perm.length_eq
theorem Seg.trans {d d' d'' : List Int} {a b : Nat} (h : Seg d d' a b) (k : Seg d' d'' a b) : Seg d d'' a b := ⟨k.perm.trans h.perm, fun z hz => (k.out z hz).trans (h.out z hz)⟩
theorem Seg.mono {d d' : List Int} {a b a' b' : Nat} (h : Seg d d' a b) (ha : a' ≤ a) (hb : b ≤ b') : Seg d d' a' b' := ⟨h.perm, fun z hz => h.out z (by omega)⟩
theorem Seg.swp {d d' : List Int} {a b i j : Nat} (h : Seg d d' a b) (hi : a ≤ i ∧ i < b) (hj : a ≤ j ∧ j < b) (hb : b ≤ d.length) : Seg d (swp d' i j) a b := by
  have hl := h.len
  refine h.trans ⟨swp_perm (by omega) (by omega), fun k hk => ?_⟩
  rw [swp_ele (by omega) (by omega), if_neg (by omega), if_neg (by omega)]

/-- Rising from a up to b. -/
def Srtd (d : List Int) (a b : Nat) : Prop := ∀ p q, a ≤ p → p < q → q < b → ele d p ≤ ele d q

/-- An insertion under way: the new one stands at j, of those up to i. -/
structure Ins (d : List Int) (a i j : Nat) : Prop where
  lo : ∀ p q, a ≤ p → p < q → q < j → ele d p ≤ ele d q
  hi : ∀ p q, j ≤ p → p < q → q ≤ i → ele d p ≤ ele d q
  cross : ∀ p q, a ≤ p → p < j → j < q → q ≤ i → ele d p ≤ ele d q

theorem Ins.start {d : List Int} {a i : Nat} (h : Srtd d a i) : Ins d a i i := ⟨h, fun p q h1 h2 h3 => by omega, fun p q _ _ h1 h2 => by omega⟩
theorem Ins.done0 {d : List Int} {a i : Nat} (h : Ins d a i a) : Srtd d a (i + 1) := fun p q h1 h2 h3 => h.hi p q h1 h2 (by omega)
theorem Ins.done {d : List Int} {a i j : Nat} (h : Ins d a i j) (hle : ele d (j - 1) ≤ ele d j) : Srtd d a (i + 1) := by
  intro p q h1 h2 h3
  by_cases hq : q < j
  · exact h.lo p q h1 h2 hq
  · by_cases hp : j ≤ p
    · exact h.hi p q hp h2 (by omega)
    · have e1 : ele d p ≤ ele d (j - 1) := by
        by_cases hpj : p = j - 1
        · rw [hpj]; exact Int.le_refl _
        · exact h.lo p (j - 1) h1 (by omega) (by omega)
      have e2 : ele d j ≤ ele d q := by
        by_cases hqj : q = j
        · rw [hqj]; exact Int.le_refl _
        · exact h.hi j q (Nat.le_refl _) (by omega) (by omega)
      omega

theorem Ins.step {d : List Int} {a i j : Nat} (h : Ins d a i j) (hj : a < j) (hji : j ≤ i) (hi : i < d.length) (hlt : ele d j < ele d (j - 1)) : Ins (swp d j (j - 1)) a i (j - 1) := by
  have hs := fun k => swp_ele (d := d) (i := j) (j := j - 1) (by omega) (by omega) k
  have hs1 : ele (swp d j (j - 1)) (j - 1) = ele d j := by rw [hs, if_pos rfl]
  have hs2 : ele (swp d j (j - 1)) j = ele d (j - 1) := by rw [hs, if_neg (by omega), if_pos rfl]
  have hs3 : ∀ k, k ≠ j → k ≠ j - 1 → ele (swp d j (j - 1)) k = ele d k := fun k h1 h2 => by rw [hs, if_neg h2, if_neg h1]
  refine ⟨fun p q h1 h2 h3 => ?_, fun p q h1 h2 h3 => ?_, fun p q h1 h2 h3 h4 => ?_⟩
  · rw [hs3 p (by omega) (by omega), hs3 q (by omega) (by omega)]
    exact h.lo p q h1 h2 (by omega)
  · by_cases p1 : p = j - 1
    · subst p1
      rw [hs1]
      by_cases q1 : q = j
      · rw [q1, hs2]; exact Int.le_of_lt hlt
      · rw [hs3 q q1 (by omega)]; exact h.hi j q (Nat.le_refl _) (by omega) h3
    · rw [hs3 q (by omega) (by omega)]
      by_cases p2 : p = j
      · rw [p2, hs2]; exact h.cross (j - 1) q (by omega) (by omega) (by omega) h3
      · rw [hs3 p p2 p1]; exact h.hi p q (by omega) h2 h3
  · rw [hs3 p (by omega) (by omega)]
    by_cases q1 : q = j
    · rw [q1, hs2]; exact h.lo p (j - 1) h1 (by omega) (by omega)
    · rw [hs3 q q1 (by omega)]; exact h.cross p q h1 (by omega) (by omega) h4

/-- A list that rises is what sorting makes of it. -/
theorem srtd_eq {d : List Int} (h : Srtd d 0 d.length) : d.Pairwise fun a b => a ≤ b := by
  rw [List.pairwise_iff_getElem]
  intro i j hi hj hij
  have := h i j (Nat.zero_le _) hij hj
  unfold ele at this
  rw [List.getD_eq_getElem?_getD, List.getD_eq_getElem?_getD, List.getElem?_eq_getElem hi, List.getElem?_eq_getElem hj] at this
  exact this
end Go.Proofs.Ytghniddefhdmmaa
