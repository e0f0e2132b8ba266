/- What the function Less of package gauss does, called with small whole numbers: its contract. -/
import Derived.Test.YtghniddefhdmmaaGsm
namespace Go.Proofs.Ytghniddefhdmmaa
open Go.RowKit Flo

/-- The lesser one: by the norms, then by the parts. -/
def lessB (n m u v : Int) : Bool :=
  if n * n + m * m = u * u + v * v then (if n = u then decide (m < v) else decide (n < u)) else decide (n * n + m * m < u * u + v * v)

theorem part_order {x y : Nat} {n m : Int} (hx : Is x n) (hy : Is y m) (hn : n.natAbs ≤ 2 ^ 53) (hm : m.natAbs ≤ 2 ^ 53) :
    ∃ c, FloatKind.f64.format.order x y = some c ∧ ((c = .lt ∧ n < m) ∨ (c = .eq ∧ n = m) ∨ (c = .gt ∧ m < n)) := by
  rcases Int.lt_trichotomy n m with h | h | h
  · exact ⟨_, ord_lt hx hy hn hm h, .inl ⟨rfl, h⟩⟩
  · exact ⟨_, ord_eq hx hy hn hm h, .inr (.inl ⟨rfl, h⟩)⟩
  · exact ⟨_, ord_gt hx hy hn hm h, .inr (.inr ⟨rfl, h⟩)⟩

theorem ret_bool {a b : Bool} (h : a = b) : Ending.returned (.bool a) = .returned (.bool b) := by rw [h]

set_option maxHeartbeats 1000000 in
theorem less_any (a b c d : Nat) (n m u v : Int) (w : World) (ha : Is a n) (hb : Is b m) (hc : Is c u) (hd : Is d v) (hn : n.natAbs ≤ 16777216) (hm : m.natAbs ≤ 16777216) (hu : u.natAbs ≤ 16777216) (hv : v.natAbs ≤ 16777216) :
    Calls Try.prog 22 #[.complex .f64 a b, .complex .f64 c d] w fun e w' => e = .returned (.bool (lessB n m u v)) ∧ Below w.heap.size w w' := by
  have HN := Lib.hid (fun W => norm_any a b n m W ha hb hn hm)
  have HM := Lib.hid (fun W => norm_any c d u v W hc hd hu hv)
  obtain ⟨x1, o1, k1⟩ := part_order ha hc (by omega) (by omega)
  obtain ⟨x2, o2, k2⟩ := part_order hb hd (by omega) (by omega)
  have hL := Lib.hid (show lessB n m u v = (if n * n + m * m = u * u + v * v then (if n = u then decide (m < v) else decide (n < u)) else decide (n * n + m * m < u * u + v * v)) from rfl)
  clear ha hb hc hd hn hm hu hv
  generalize n * n + m * m = P at HN hL
  generalize u * u + v * v = Q at HM hL
  by_cases hPQ : P = Q
  · have hPQ' := Lib.hid hPQ
    have bPQ : (P == Q) = true := by simpa using hPQ
    have bPQ' : (P != Q) = false := by simpa using hPQ
    clear hPQ
    rcases k1 with ⟨rfl, h1⟩ | ⟨rfl, h1⟩ | ⟨rfl, h1⟩
    · have hfin := Lib.hid (show lessB n m u v = true by rw [hL.out, if_pos hPQ'.out, if_neg (by omega)]; simpa using h1)
      clear o2 k2 h1
      go_enter Try.func22, Try.ntmps22
      go_wp2_with fail
      refine (HN.out _).mono ?_; rintro e w1 ⟨rfl, hb1⟩
      go_wp2_with fail
      refine (HM.out _).mono ?_; rintro e w2 ⟨rfl, hb2⟩
      go_wp2
      go_ret
      exact ⟨ret_bool hfin.out.symm, hb1.trans (hb2.mono hb1.size)⟩
    · have h1' := Lib.hid h1
      have hfin := Lib.hid (show lessB n m u v = decide (m < v) by rw [hL.out, if_pos hPQ'.out, if_pos h1])
      clear h1
      rcases k2 with ⟨rfl, h2⟩ | ⟨rfl, h2⟩ | ⟨rfl, h2⟩
      · have hfin := Lib.hid (show lessB n m u v = true by rw [hfin.out]; simpa using h2)
        clear h2
        go_enter Try.func22, Try.ntmps22
        go_wp2_with fail
        refine (HN.out _).mono ?_; rintro e w1 ⟨rfl, hb1⟩
        go_wp2_with fail
        refine (HM.out _).mono ?_; rintro e w2 ⟨rfl, hb2⟩
        go_wp2
        go_ret
        exact ⟨ret_bool hfin.out.symm, hb1.trans (hb2.mono hb1.size)⟩
      all_goals
        have hfin := Lib.hid (show lessB n m u v = false by rw [hfin.out]; simp; omega)
        clear h2
        go_enter Try.func22, Try.ntmps22
        go_wp2_with fail
        refine (HN.out _).mono ?_; rintro e w1 ⟨rfl, hb1⟩
        go_wp2_with fail
        refine (HM.out _).mono ?_; rintro e w2 ⟨rfl, hb2⟩
        go_wp2
        go_ret
        exact ⟨ret_bool hfin.out.symm, hb1.trans (hb2.mono hb1.size)⟩
    · have hfin := Lib.hid (show lessB n m u v = false by rw [hL.out, if_pos hPQ'.out, if_neg (by omega)]; simp; omega)
      clear o2 k2 h1
      go_enter Try.func22, Try.ntmps22
      go_wp2_with fail
      refine (HN.out _).mono ?_; rintro e w1 ⟨rfl, hb1⟩
      go_wp2_with fail
      refine (HM.out _).mono ?_; rintro e w2 ⟨rfl, hb2⟩
      go_wp2
      go_ret
      exact ⟨ret_bool hfin.out.symm, hb1.trans (hb2.mono hb1.size)⟩
  · have hfin := Lib.hid (show lessB n m u v = decide (P < Q) by rw [hL.out, if_neg hPQ])
    have bPQ : (P == Q) = false := by simpa using hPQ
    have bPQ' : (P != Q) = true := by simpa using hPQ
    clear o1 o2 k1 k2 hPQ
    go_enter Try.func22, Try.ntmps22
    go_wp2_with fail
    refine (HN.out _).mono ?_; rintro e w1 ⟨rfl, hb1⟩
    go_wp2_with fail
    refine (HM.out _).mono ?_; rintro e w2 ⟨rfl, hb2⟩
    go_wp2
    go_ret
    exact ⟨ret_bool hfin.out.symm, hb1.trans (hb2.mono hb1.size)⟩

end Go.Proofs.Ytghniddefhdmmaa
