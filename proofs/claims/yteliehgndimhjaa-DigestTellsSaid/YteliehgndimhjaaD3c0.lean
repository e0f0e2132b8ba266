/- Plain laws for the statement DigestLikes: sums behind the change of single bytes. -/
import Derived.Test.YteliehgndimhjaaD3b
import Derived.OneCell
namespace Go.Proofs.Yteliehgndimhjaa
open Go.RowKit Flo

theorem tmod_bd2 (a : Int) (n : Nat) (h : 0 < n) : -(n : Int) < a.tmod n ∧ a.tmod n < n := by
  have h : (a.tmod n).natAbs < n := by
    rw [Int.natAbs_tmod, Int.natAbs_natCast]; exact Nat.mod_lt _ h
  omega

theorem pcl_len (g : Nat → Nat) : (pc g).toList.length = 4096 := by rw [Array.length_toList, pc_size]; rfl

theorem reads_blk {W : World} {b B : Nat} {T : TypeId} {g : Nat → Nat} (h : Blk W b T (pc g)) (hb : b < B) : Reads W B 1 (some ⟨b, 0, none⟩) 4096 (pc g).toList := by
  refine ⟨by rw [pcl_len], fun _ => ⟨_, rfl, hb, fun j u hu => ?_⟩⟩
  have e : (⟨b, 0, none⟩ : Addr).add j = ⟨b, j, none⟩ := by
    unfold Addr.add
    by_cases h0 : j = 0
    · subst h0; rfl
    · rw [if_neg h0]; simp
  rw [e, h.cell j, ← Array.getElem?_toList]
  exact hu

theorem pcl_one (g : Nat → Nat) : ∀ u ∈ (pc g).toList, u.oneCell' = true := by
  intro u hu
  obtain ⟨j, hj⟩ := List.mem_iff_getElem?.1 hu
  rw [Array.getElem?_toList, pc_get?] at hj
  by_cases h : j < pgN
  · rw [if_pos h] at hj; cases hj; rfl
  · rw [if_neg h] at hj; cases hj

theorem pcl_set (g : Nat → Nat) (i v : Nat) : (pc g).toList.set i (.int .u8 (v : Int)) = (pc (upd g i v)).toList := by
  rw [← pc_set, Array.toList_setIfInBounds]

/-- A page that lies in a row of its own. -/
theorem page_own {W : World} {base b cap : Nat} {g : Nat → Nat} (h : W.ownsRow base 5 1 (.slice (some ⟨b, 0, none⟩) 4096 cap) 4096 (pc g).toList) : PageAt W b g := fun j hj => by
  rw [h.cellAt j (by omega), Array.getElem?_toList, pc_get g j hj]

/-- The sum behind the change of a word's fourth byte. -/
theorem wl_upd_lt (g : Nat → Nat) (k i v j : Nat) (h : 8 * k + j ≤ i ∨ i < 8 * k) : wl (upd g i v) k j = wl g k j := by
  refine wl_congr _ _ _ _ fun t ht => ?_
  unfold upd
  rw [if_neg (by omega)]

theorem wv_upd3 (g : Nat → Nat) (k v : Nat) : wv (upd g (8 * k + 3) v) k + g (8 * k + 3) * 16777216 = wv g k + v * 16777216 := by
  have h : ∀ j, j < 8 → j ≠ 3 → upd g (8 * k + 3) v (8 * k + j) = g (8 * k + j) := fun j hj h3 => by
    unfold upd; rw [if_neg (by omega)]
  have h3 : upd g (8 * k + 3) v (8 * k + 3) = v := by unfold upd; rw [if_pos rfl]
  unfold wv
  simp only [wl, h 0 (by omega) (by omega), h 1 (by omega) (by omega), h 2 (by omega) (by omega), h3, h 4 (by omega) (by omega), h 5 (by omega) (by omega), h 6 (by omega) (by omega), h 7 (by omega) (by omega), Nat.reduceMul, Nat.reducePow]
  omega

theorem wv_upd_other (g : Nat → Nat) (k i v j : Nat) (hj : j < 8) (hi : i ≠ k) : wv (upd g (8 * k + j) v) i = wv g i :=
  wl_upd_lt g i _ v 8 (by omega)

theorem lohi_upd3 (g : Nat → Nat) (hg : Bytes g) (k v : Nat) (hv : v < 256) :
    lo (wv (upd g (8 * k + 3) v) k) = lo (wv g k) + ((v : Int) - g (8 * k + 3)) * 16777216 ∧ hi (wv (upd g (8 * k + 3) v) k) = hi (wv g k) := by
  have e := wv_upd3 g k v
  have hb : ∀ j, g (8 * k + j) < 256 := fun j => hg _
  have hw : wv g k = (g (8 * k + 0) + g (8 * k + 1) * 256 + g (8 * k + 2) * 65536) + g (8 * k + 3) * 16777216 + (g (8 * k + 4) + g (8 * k + 5) * 256 + g (8 * k + 6) * 65536 + g (8 * k + 7) * 16777216) * 4294967296 := by
    unfold wv
    simp only [wl, Nat.reduceMul, Nat.reducePow]
    omega
  have h0 := hb 0
  have h1 := hb 1
  have h2 := hb 2
  have h3 := hb 3
  have hL : g (8 * k + 0) + g (8 * k + 1) * 256 + g (8 * k + 2) * 65536 < 16777216 := by omega
  clear h0 h1 h2 hb hg
  unfold lo hi
  generalize wv (upd g (8 * k + 3) v) k = W' at *
  generalize wv g k = W at *
  generalize g (8 * k + 0) + g (8 * k + 1) * 256 + g (8 * k + 2) * 65536 = L at *
  generalize g (8 * k + 4) + g (8 * k + 5) * 256 + g (8 * k + 6) * 65536 + g (8 * k + 7) * 16777216 = H at *
  generalize g (8 * k + 3) = b at *
  omega

theorem S_upd3 (g : Nat → Nat) (hg : Bytes g) (k v : Nat) (hv : v < 256) (m : Nat) :
    SRe (upd g (8 * k + 3) v) m = SRe g m + (if k < m then tRe (((v : Int) - g (8 * k + 3)) * 16777216) 0 k else 0) ∧
    SIm (upd g (8 * k + 3) v) m = SIm g m + (if k < m then tIm (((v : Int) - g (8 * k + 3)) * 16777216) 0 k else 0) := by
  induction m with
  | zero => simp [SRe, SIm]
  | succ m ih =>
    simp only [SRe, SIm]
    rw [ih.1, ih.2]
    by_cases h : m = k
    · subst h
      have e := lohi_upd3 g hg m v hv
      rw [e.1, e.2, if_neg (by omega), if_pos (by omega), if_neg (by omega), if_pos (by omega)]
      have h := t_lin (lo (wv g m)) (hi (wv g m)) (((v : Int) - g (8 * m + 3)) * 16777216) 0 m
      rw [Int.add_zero] at h
      omega
    · rw [wv_upd_other g k m v 3 (by omega) h]
      by_cases h2 : k < m
      · rw [if_pos h2, if_pos (by omega), if_pos h2, if_pos (by omega)]; omega
      · rw [if_neg h2, if_neg (by omega), if_neg h2, if_neg (by omega)]; omega

/-- A number here and the same less there. -/
def dRe (c k f : Int) : Int := tRe c 0 k + tRe (-c) 0 (k + f)
def dIm (c k f : Int) : Int := tIm c 0 k + tIm (-c) 0 (k + f)

theorem d_far (c k f : Int) (hc : 0 < c) : (f % 4 = 0 → dRe c k f = 0 ∧ dIm c k f = 0) ∧ (¬ f % 4 = 0 → ¬ (dRe c k f = 0 ∧ dIm c k f = 0)) := by
  unfold dRe dIm tRe tIm
  have hk : k % 4 = 0 ∨ k % 4 = 1 ∨ k % 4 = 2 ∨ k % 4 = 3 := by omega
  have hf : f % 4 = 0 ∨ f % 4 = 1 ∨ f % 4 = 2 ∨ f % 4 = 3 := by omega
  rcases hk with hk | hk | hk | hk <;> rcases hf with hf | hf | hf | hf
  all_goals
    have e : (k + f) % 4 = (k % 4 + f % 4) % 4 := by omega
    rw [hk, hf] at e
    simp only [hk, hf, e]
    simp
    try omega

theorem S_two (g : Nat → Nat) (hg : Bytes g) (k f n : Nat) (hf : 1 ≤ f) (hkf : k + f < 512) (hn : n ≤ 100) (e1 : g (8 * k + 3) = 0) (e2 : g (8 * (k + f) + 3) = 100) :
    SRe (upd (upd g (8 * k + 3) n) (8 * (k + f) + 3) (100 - n)) 512 = SRe g 512 + dRe ((n : Int) * 16777216) k f ∧
    SIm (upd (upd g (8 * k + 3) n) (8 * (k + f) + 3) (100 - n)) 512 = SIm g 512 + dIm ((n : Int) * 16777216) k f := by
  have h1 := S_upd3 g hg k n (by omega) 512
  have h2 := S_upd3 (upd g (8 * k + 3) n) (upd_bytes hg _ _ (by omega)) (k + f) (100 - n) (by omega) 512
  have e3 : upd g (8 * k + 3) n (8 * (k + f) + 3) = 100 := by unfold upd; rw [if_neg (by omega), e2]
  have e4 : (((100 - n : Nat) : Int) - ((100 : Nat) : Int)) * 16777216 = -((n : Int) * 16777216) := by omega
  rw [e3, e4, if_pos hkf, if_pos hkf] at h2
  have e5 : ((n : Int) - ((0 : Nat) : Int)) * 16777216 = (n : Int) * 16777216 := by omega
  rw [e1, e5, if_pos (by omega), if_pos (by omega)] at h1
  rw [h2.1, h2.2, h1.1, h1.2]
  unfold dRe dIm
  have e6 : ((k + f : Nat) : Int) = (k : Int) + f := by simp
  rw [e6]
  exact ⟨Int.add_assoc _ _ _, Int.add_assoc _ _ _⟩

theorem eq_no' {n u : Int} (hn : n.natAbs ≤ 2 ^ 53) (hu : u.natAbs ≤ 2 ^ 53) (h : n ≠ u) : (FloatKind.f64.format.order (F n) (F u) == some .eq) = false := by
  rcases Int.lt_or_gt_of_ne h with h | h
  · rw [ord_lt (F_is n) (F_is u) hn hu h]; rfl
  · rw [ord_gt (F_is n) (F_is u) hn hu h]; rfl

theorem t_neg (c k : Int) : tRe (-c) 0 k = - tRe c 0 k ∧ tIm (-c) 0 k = - tIm c 0 k := by
  unfold tRe tIm
  by_cases h0 : k % 4 = 0
  · simp [h0]
  by_cases h1 : k % 4 = 1
  · simp [h1]
  by_cases h2 : k % 4 = 2
  · simp [h2]
  · simp [h0, h1, h2]

theorem d_bd (c k f A : Int) (h0 : 0 ≤ c) (h1 : c ≤ A) : (-(2 * A) ≤ dRe c k f ∧ dRe c k f ≤ 2 * A) ∧ -(2 * A) ≤ dIm c k f ∧ dIm c k f ≤ 2 * A := by
  have a := t_bd c 0 k A ⟨h0, h1⟩ ⟨Int.le_refl _, by omega⟩
  have b := t_bd c 0 (k + f) A ⟨h0, h1⟩ ⟨Int.le_refl _, by omega⟩
  unfold dRe dIm
  rw [(t_neg c (k + f)).1, (t_neg c (k + f)).2]
  omega

end Go.Proofs.Yteliehgndimhjaa
