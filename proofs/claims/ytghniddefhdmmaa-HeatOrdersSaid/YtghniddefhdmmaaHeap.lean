/- A heap within a stretch of a list: the plain law. -/
import Derived.Test.YtghniddefhdmmaaSrt
namespace Go.Proofs.Ytghniddefhdmmaa

/-- Below every parent from l on stands no greater one: h places from f on. -/
def Heap (d : List Int) (f h l : Nat) : Prop := ∀ c, 0 < c → c < h → l ≤ (c - 1) / 2 → ele d (f + c) ≤ ele d (f + (c - 1) / 2)

/-- As Heap, but for r's own children; these are not greater than r's parent. -/
structure HeapBut (d : List Int) (f h l r : Nat) : Prop where
  all : ∀ c, 0 < c → c < h → l ≤ (c - 1) / 2 → (c - 1) / 2 ≠ r → ele d (f + c) ≤ ele d (f + (c - 1) / 2)
  grand : ∀ c, 0 < c → c < h → (c - 1) / 2 = r → 0 < r → l ≤ (r - 1) / 2 → ele d (f + c) ≤ ele d (f + (r - 1) / 2)

theorem HeapBut.start {d : List Int} {f h l : Nat} (hp : Heap d f h (l + 1)) : HeapBut d f h l l :=
  ⟨fun c h1 h2 h3 h4 => hp c h1 h2 (by omega), fun c _ _ _ h4 h5 => by omega⟩

theorem HeapBut.leaf {d : List Int} {f h l r : Nat} (hp : HeapBut d f h l r) (hr : h ≤ 2 * r + 1) : Heap d f h l := fun c h1 h2 h3 =>
  hp.all c h1 h2 h3 (by omega)

theorem HeapBut.done {d : List Int} {f h l r : Nat} (hp : HeapBut d f h l r) (h1 : ele d (f + (2 * r + 1)) ≤ ele d (f + r)) (h2 : 2 * r + 2 < h → ele d (f + (2 * r + 2)) ≤ ele d (f + r)) : Heap d f h l := by
  intro c hc hch hl
  by_cases e : (c - 1) / 2 = r
  · rw [e]
    by_cases e1 : c = 2 * r + 1
    · rw [e1]; exact h1
    · have e2 : c = 2 * r + 2 := by omega
      rw [e2] at hch ⊢; exact h2 hch
  · exact hp.all c hc hch hl e

/-- The root gives way to its greater child k. -/
theorem HeapBut.step {d : List Int} {f h l r k : Nat} (hp : HeapBut d f h l r) (hlr : l ≤ r) (hd : f + h ≤ d.length) (hk : k < h) (hkr : (k - 1) / 2 = r) (hk0 : 0 < k) (hlt : ele d (f + r) ≤ ele d (f + k))
    (hmax : ∀ c, 0 < c → c < h → (c - 1) / 2 = r → ele d (f + c) ≤ ele d (f + k)) : HeapBut (swp d (f + r) (f + k)) f h l k := by
  have hs := fun x => swp_ele (d := d) (i := f + r) (j := f + k) (by omega) (by omega) x
  have sr : ele (swp d (f + r) (f + k)) (f + r) = ele d (f + k) := by rw [hs, if_neg (by omega : ¬ f + r = f + k), if_pos rfl]
  have sk : ele (swp d (f + r) (f + k)) (f + k) = ele d (f + r) := by rw [hs, if_pos rfl]
  have so : ∀ x, x ≠ r → x ≠ k → ele (swp d (f + r) (f + k)) (f + x) = ele d (f + x) := fun x h1 h2 => by
    rw [hs, if_neg (by omega : ¬ f + x = f + k), if_neg (by omega : ¬ f + x = f + r)]
  refine ⟨fun c h1 h2 h3 h4 => ?_, fun c h1 h2 h3 h4 h5 => ?_⟩
  · by_cases e : (c - 1) / 2 = r
    · rw [e, sr]
      by_cases ek : c = k
      · rw [ek, sk]; exact hlt
      · rw [so c (by omega) ek]; exact hmax c h1 h2 e
    · rw [so _ e h4]
      by_cases er : c = r
      · rw [er, sr]
        have := hp.grand k hk0 hk hkr (by omega) (by rw [← er]; exact h3)
        rw [← er] at this ⊢
        exact this
      · rw [so c er (by intro e2; rw [e2] at e; exact e hkr)]
        exact hp.all c h1 h2 h3 e
  · rw [hkr, sr, so c (by omega) (by omega)]
    have := hp.all c h1 h2 (by omega) (by omega)
    rw [h3] at this
    exact this

/-- The first is the greatest. -/
theorem Heap.top {d : List Int} {f h : Nat} (hp : Heap d f h 0) : ∀ c, c < h → ele d (f + c) ≤ ele d (f + 0)
  | c, hc => by
    by_cases h0 : c = 0
    · rw [h0]; exact Int.le_refl _
    · exact Int.le_trans (hp c (by omega) hc (Nat.zero_le _)) (Heap.top hp ((c - 1) / 2) (by omega))
termination_by c => c
decreasing_by omega
end Go.Proofs.Ytghniddefhdmmaa
