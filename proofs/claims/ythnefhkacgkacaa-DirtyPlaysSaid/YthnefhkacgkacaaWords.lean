/- What Ints of package demesneref11 tells of two lists: its contract. -/
import Derived.Test.YthnefhkacgkacaaBuilt
import Derived.Test.YthnefhkacgkacaaRows
import Derived.RegionTactic
import Derived.Lib.Hide
import Derived.WalkLawsBesides
namespace Go.Proofs.Ythnefhkacgkacaa
open Go.RowKit Mf

theorem reads_u {w : World} {B n : Nat} {A : Option Addr} {xs : List Int} (h : Reads w B 1 A n (xs.map (Value.int .u64))) {k : Nat} (hk : k < n) : ∃ ad x, A = some ad ∧ ad.block < B ∧ xs[k]? = some x ∧ w.cell? (ad.add k) = some (.int .u64 x) := by
  obtain ⟨ad, u, e, hb, hx, hc⟩ := h.at_ hk
  rw [List.getElem?_map] at hx
  cases hx' : xs[k]? with
  | none => rw [hx'] at hx; cases hx
  | some x => rw [hx'] at hx; cases hx; exact ⟨ad, x, e, hb, rfl, hc⟩

set_option maxHeartbeats 1000000 in
theorem words_any (A1 A2 : Option Addr) (n1 n2 c1 c2 B1 B2 : Nat) (xs ys : List Int) (w : World) (h1 : Reads w B1 1 A1 n1 (xs.map (Value.int .u64))) (h2 : Reads w B2 1 A2 n2 (ys.map (Value.int .u64))) (hn : n1 ≤ 1048576) :
    Calls Try.prog 11 #[.slice A1 n1 c1, .slice A2 n2 c2] w fun e w' => e = .returned (.bool (decide (xs = ys))) ∧ Below w.heap.size w w' := by
  have l1 : xs.length = n1 := by have := h1.1; simp at this; omega
  have l2 : ys.length = n2 := by have := h2.1; simp at this; omega
  have H1 := Lib.hid h1
  have H2 := Lib.hid h2
  clear h1 h2
  by_cases hl : n1 = n2
  · subst hl
    go_enter Try.func11, Try.ntmps11
    go_wp2
    go_loopw [5] (fun i wr => ∃ k : Nat, i = .int .i64 k ∧ k ≤ n1 ∧ (∀ j, j < k → xs[j]? = ys[j]?) ∧ ∃ m, wr = w.drewN m) (fun i _ => n1 - (intOf i).toNat)
    case atStart => exact ⟨0, rfl, Nat.zero_le _, fun j hj => by omega, 0, rfl⟩
    case round =>
      obtain ⟨k, rfl, hk, hsame, m, rfl⟩ := hrel
      have HS := Lib.hid hsame
      clear hsame
      by_cases hlt : k < n1
      · obtain ⟨ad1, x, rfl, hb1, hx, hc1⟩ := reads_u H1.out hlt
        obtain ⟨ad2, y, rfl, hb2, hy, hc2⟩ := reads_u H2.out hlt
        by_cases hxy : x = y
        · subst hxy
          go_wp2
          go_region
          go_wp2
          refine ⟨⟨k + 1, by go_num, by omega, fun j hj => ?_, m + 1, rfl⟩, by simp only [intOf]; omega⟩
          by_cases hjk : j = k
          · subst hjk; rw [hx, hy]
          · exact HS.out j (by omega)
        · have hxy' : (x == y) = false := by simpa using hxy
          have hne : decide (xs = ys) = false := by
            rw [decide_eq_false_iff_not]; intro e; subst e; rw [hx] at hy; cases hy; exact hxy rfl
          go_wp2
          go_region
          go_wp2
          go_ret
          exact ⟨by simp [hne], below_drewN (Below.refl _ _) _⟩
      · have hkn : k = n1 := by omega
        subst hkn
        have he : decide (xs = ys) = true := by
          rw [decide_eq_true_eq]
          apply List.ext_getElem?
          intro j
          by_cases hj : j < k
          · exact HS.out j hj
          · rw [List.getElem?_eq_none (by omega), List.getElem?_eq_none (by omega)]
        go_wp2
        go_ret
        exact ⟨by simp [he], below_drewN (Below.refl _ _) _⟩
  · have hne : decide (xs = ys) = false := by
      rw [decide_eq_false_iff_not]; intro e; rw [e] at l1; omega
    rw [hne]
    have hl' : ((n1 : Int) == (n2 : Int)) = false := by rw [beq_eq_false_iff_ne]; omega
    go_enter Try.func11, Try.ntmps11
    go_wp2
    go_ret
    exact ⟨rfl, Below.refl _ _⟩

end Go.Proofs.Ythnefhkacgkacaa
