/- The walk of the statement GaussLine: it returns true. -/
import Derived.Test.YtdificidpjjhpaaG1a
namespace Go.Proofs.Ytdificidpjjhpaa
open Go.RowKit Flo

theorem less_irr (n m : Int) : lessB n m n m = false := by simp [lessB]
theorem less_asym {n m u v : Int} (h : lessB n m u v = true) : lessB u v n m = false := by
  unfold lessB at *
  generalize n * n + m * m = P at *
  generalize u * u + v * v = Q at *
  by_cases h1 : P = Q
  · subst h1
    by_cases h2 : n = u
    · subst h2; simp at *; omega
    · have h3 : ¬ u = n := fun e => h2 e.symm
      simp [h2, h3] at *; omega
  · have h3 : ¬ Q = P := fun e => h1 e.symm
    simp [h1, h3] at *; omega
theorem less_ne {n m u v : Int} (h : lessB n m u v = true) : ¬ (n = u ∧ m = v) := by
  rintro ⟨rfl, rfl⟩
  rw [less_irr] at h; cases h
theorem less_total {n m u v : Int} (h : lessB n m u v = false) (h' : lessB u v n m = false) : n = u ∧ m = v := by
  unfold lessB at *
  generalize n * n + m * m = P at *
  generalize u * u + v * v = Q at *
  by_cases h1 : P = Q
  · rw [if_pos h1] at h
    rw [if_pos h1.symm] at h'
    by_cases h2 : n = u
    · rw [if_pos h2] at h
      rw [if_pos h2.symm] at h'
      have a := of_decide_eq_false h
      have b := of_decide_eq_false h'
      omega
    · rw [if_neg h2] at h
      rw [if_neg (fun e => h2 e.symm)] at h'
      have a := of_decide_eq_false h
      have b := of_decide_eq_false h'
      omega
  · rw [if_neg h1] at h
    rw [if_neg (fun e => h1 e.symm)] at h'
    have a := of_decide_eq_false h
    have b := of_decide_eq_false h'
    omega
theorem less_trans {n m u v s t : Int} (h : lessB n m u v = true) (h' : lessB u v s t = true) : lessB n m s t = true := by
  unfold lessB at *
  generalize n * n + m * m = P at *
  generalize u * u + v * v = Q at *
  generalize s * s + t * t = R at *
  by_cases h1 : P = Q
  · subst h1
    by_cases h2 : n = u
    · subst h2
      simp at h
      by_cases h3 : P = R
      · subst h3
        by_cases h4 : n = s
        · subst h4; simp at *; omega
        · simp [h4] at *; omega
      · simp [h3] at *; omega
    · simp [h2] at h
      by_cases h3 : P = R
      · subst h3
        by_cases h4 : u = s
        · subst h4; simp [h2] at *; omega
        · simp [h4] at h'
          have : ¬ n = s := by omega
          simp [this]; omega
      · simp [h3] at *; omega
  · simp [h1] at h
    by_cases h3 : Q = R
    · subst h3; simp [h1]; omega
    · simp [h3] at h'
      have : ¬ P = R := by omega
      simp [this]; omega

/-- Small numbers' parts. -/
def Sm (n : Int) : Prop := -8388608 ≤ n ∧ n ≤ 8388608

theorem less_sm {n m u v : Int} (hn : Sm n) (hm : Sm m) (hu : Sm u) (hv : Sm v) (W : World) {B : Bool} (hB : lessB n m u v = B) :
    Calls Try.prog 12 #[.complex .f64 (F n) (F m), .complex .f64 (F u) (F v)] W fun e w' => e = .returned (.bool B) ∧ Below W.heap.size W w' := by
  unfold Sm at *
  have h := less_any (F n) (F m) (F u) (F v) n m u v W (F_is _) (F_is _) (F_is _) (F_is _) (by omega) (by omega) (by omega) (by omega)
  rw [hB] at h; exact h

theorem eq_no {n u : Int} (hn : Sm n) (hu : Sm u) (h : n ≠ u) : (FloatKind.f64.format.order (F n) (F u) == some .eq) = false := by
  unfold Sm at *
  obtain ⟨c, h1, h2⟩ := part_order (F_is n) (F_is u) (by omega) (by omega)
  rw [h1]
  rcases h2 with ⟨rfl, _⟩ | ⟨rfl, h3⟩ | ⟨rfl, _⟩
  · rfl
  · exact absurd h3 h
  · rfl
theorem eq_yes {n u : Int} (hn : Sm n) (h : n = u) : (FloatKind.f64.format.order (F n) (F u) == some .eq) = true := by
  unfold Sm at *
  subst h
  rw [ord_self n (by omega)]; rfl

set_option maxHeartbeats 8000000 in
set_option maxRecDepth 100000 in
theorem gaussLine_walk (a b c d e f : Int) (few : Bool) (w : World) : Calls Try.prog 4 #[.int .i64 a, .int .i64 b, .int .i64 c, .int .i64 d, .int .i64 e, .int .i64 f, .bool few] w fun e w' => e = .returned (.bool true) ∧ Below w.heap.size w w' := by
  have HX := Lib.hid (fun W => lawsmall_any a b W)
  have HY := Lib.hid (fun W => lawsmall_any c d W)
  have HZ := Lib.hid (fun W => lawsmall_any e f W)
  have ka := mask3 a
  have kb := mask3 b
  have kc := mask3 c
  have kd := mask3 d
  have ke := mask3 e
  have kf := mask3 f
  have key : ∀ x y : Int, ∃ n m, Sm n ∧ Sm m ∧ (few = false → sm x = n ∧ sm y = m) ∧ (few = true → x % 4 - 2 = n ∧ y % 4 - 2 = m) := by
    intro x y
    cases few
    · have h1 := sm_bd x
      have h2 := sm_bd y
      exact ⟨sm x, sm y, (by unfold Sm; omega), (by unfold Sm; omega), fun _ => ⟨rfl, rfl⟩, fun h => Bool.noConfusion h⟩
    · exact ⟨x % 4 - 2, y % 4 - 2, (by unfold Sm; omega), (by unfold Sm; omega), fun h => Bool.noConfusion h, fun _ => ⟨rfl, rfl⟩⟩
  obtain ⟨x1, x2, bx1, bx2, fx, tx⟩ := key a b
  obtain ⟨y1, y2, by1, by2, fy, ty⟩ := key c d
  obtain ⟨z1, z2, bz1, bz2, fz, tz⟩ := key e f
  have HXX := Lib.hid (fun W => less_sm bx1 bx2 bx1 bx2 W (less_irr x1 x2))
  have FX := Lib.hid fx
  have FY := Lib.hid fy
  have FZ := Lib.hid fz
  have TX := Lib.hid tx
  have TY := Lib.hid ty
  have TZ := Lib.hid tz
  clear key fx fy fz tx ty tz
  obtain ⟨l, hl⟩ : ∃ l, lessB x1 x2 y1 y2 = l := ⟨_, rfl⟩
  obtain ⟨g, hg⟩ : ∃ g, lessB y1 y2 x1 x2 = g := ⟨_, rfl⟩
  obtain ⟨t, ht⟩ : ∃ t, lessB y1 y2 z1 z2 = t := ⟨_, rfl⟩
  have HL := Lib.hid (fun W => less_sm bx1 bx2 by1 by2 W hl)
  have HG := Lib.hid (fun W => less_sm by1 by2 bx1 bx2 W hg)
  have HT := Lib.hid (fun W => less_sm by1 by2 bz1 bz2 W ht)
  have hcases : (∃ B1 B2, (FloatKind.f64.format.order (F x1) (F y1) == some .eq) = B1 ∧ (FloatKind.f64.format.order (F x2) (F y2) == some .eq) = B2 ∧ ((l = true ∧ g = false ∧ (B1 && B2) = false) ∨ (l = false ∧ g = true ∧ (B1 && B2) = false) ∨ (l = false ∧ g = false ∧ B1 = true ∧ B2 = true))) := by
    refine ⟨_, _, rfl, rfl, ?_⟩
    have hne : ¬ (x1 = y1 ∧ x2 = y2) → ((FloatKind.f64.format.order (F x1) (F y1) == some .eq) && (FloatKind.f64.format.order (F x2) (F y2) == some .eq)) = false := by
      intro h
      by_cases h1 : x1 = y1
      · rw [eq_no bx2 by2 (fun h2 => h ⟨h1, h2⟩)]; simp
      · rw [eq_no bx1 by1 h1]; rfl
    cases l
    · cases g
      · have h := less_total hl hg
        exact .inr (.inr ⟨rfl, rfl, eq_yes bx1 h.1, eq_yes bx2 h.2⟩)
      · have h := less_ne hg
        exact .inr (.inl ⟨rfl, rfl, hne fun ⟨h1, h2⟩ => h ⟨h1.symm, h2.symm⟩⟩)
    · have h := less_asym hl
      rw [hg] at h
      exact .inl ⟨rfl, h, hne (less_ne hl)⟩
  have HTR : l = true → t = true → Hid (∀ W, Calls Try.prog 12 #[.complex .f64 (F x1) (F x2), .complex .f64 (F z1) (F z2)] W fun e w' => e = .returned (.bool true) ∧ Below W.heap.size W w') := by
    intro h1 h2
    rw [h1] at hl
    rw [h2] at ht
    exact Lib.hid (fun W => less_sm bx1 bx2 bz1 bz2 W (less_trans hl ht))
  clear hl hg ht bx1 bx2 by1 by2 bz1 bz2
  obtain ⟨B1, B2, o1, o2, hcs⟩ := hcases
  cases few
  · obtain ⟨e1, e2⟩ := FX.out rfl
    obtain ⟨e3, e4⟩ := FY.out rfl
    obtain ⟨e5, e6⟩ := FZ.out rfl
    rw [e1, e2] at HX
    rw [e3, e4] at HY
    rw [e5, e6] at HZ
    clear e1 e2 e3 e4 e5 e6 FX FY FZ TX TY TZ ka kb kc kd ke kf
    rcases hcs with ⟨rfl, rfl, hB⟩ | ⟨rfl, rfl, hB⟩ | ⟨rfl, rfl, rfl, rfl⟩
    · cases t
      · go_enter Try.func4, Try.ntmps4
        go_wp2_with fail
        refine (HX.out _).mono ?_; rintro e w' ⟨rfl, rfl⟩
        go_wp2_with fail
        refine (HY.out _).mono ?_; rintro e w' ⟨rfl, rfl⟩
        go_wp2_with fail
        refine (HZ.out _).mono ?_; rintro e w' ⟨rfl, rfl⟩
        go_wp2_with fail
        refine (HL.out _).mono ?_; rintro e w1 ⟨rfl, hb1⟩
        go_wp2_with fail
        refine (HG.out _).mono ?_; rintro e w2 ⟨rfl, hb2⟩
        go_wp2_with fail
        refine (told_any _).mono ?_; rintro e w3 ⟨rfl, hb3⟩
        go_wp2_with fail
        refine (HT.out _).mono ?_; rintro e w4 ⟨rfl, hb4⟩
        go_wp2_with fail
        refine (HXX.out _).mono ?_; rintro e w5 ⟨rfl, hb5⟩
        go_wp2
        go_ret
        have s1 := hb1.size
        have s2 := hb2.size
        have s3 := hb3.size
        have s4 := hb4.size
        exact ⟨rfl, ((((hb1.trans (hb2.mono (by omega))).trans (hb3.mono (by omega))).trans (hb4.mono (by omega))).trans (hb5.mono (by omega)))⟩
      · have HZ3 := HTR rfl rfl
        go_enter Try.func4, Try.ntmps4
        go_wp2_with fail
        refine (HX.out _).mono ?_; rintro e w' ⟨rfl, rfl⟩
        go_wp2_with fail
        refine (HY.out _).mono ?_; rintro e w' ⟨rfl, rfl⟩
        go_wp2_with fail
        refine (HZ.out _).mono ?_; rintro e w' ⟨rfl, rfl⟩
        go_wp2_with fail
        refine (HL.out _).mono ?_; rintro e w1 ⟨rfl, hb1⟩
        go_wp2_with fail
        refine (HG.out _).mono ?_; rintro e w2 ⟨rfl, hb2⟩
        go_wp2_with fail
        refine (told_any _).mono ?_; rintro e w3 ⟨rfl, hb3⟩
        go_wp2_with fail
        refine (HT.out _).mono ?_; rintro e w4 ⟨rfl, hb4⟩
        go_wp2_with fail
        refine (HZ3.out _).mono ?_; rintro e w5 ⟨rfl, hb5⟩
        go_wp2_with fail
        refine (HXX.out _).mono ?_; rintro e w6 ⟨rfl, hb6⟩
        go_wp2
        go_ret
        have s1 := hb1.size
        have s2 := hb2.size
        have s3 := hb3.size
        have s4 := hb4.size
        have s5 := hb5.size
        exact ⟨rfl, (((((hb1.trans (hb2.mono (by omega))).trans (hb3.mono (by omega))).trans (hb4.mono (by omega))).trans (hb5.mono (by omega))).trans (hb6.mono (by omega)))⟩
    · go_enter Try.func4, Try.ntmps4
      go_wp2_with fail
      refine (HX.out _).mono ?_; rintro e w' ⟨rfl, rfl⟩
      go_wp2_with fail
      refine (HY.out _).mono ?_; rintro e w' ⟨rfl, rfl⟩
      go_wp2_with fail
      refine (HZ.out _).mono ?_; rintro e w' ⟨rfl, rfl⟩
      go_wp2_with fail
      refine (HL.out _).mono ?_; rintro e w1 ⟨rfl, hb1⟩
      go_wp2_with fail
      refine (HG.out _).mono ?_; rintro e w2 ⟨rfl, hb2⟩
      go_wp2_with fail
      refine (told_any _).mono ?_; rintro e w3 ⟨rfl, hb3⟩
      go_wp2_with fail
      refine (HXX.out _).mono ?_; rintro e w4 ⟨rfl, hb4⟩
      go_wp2
      go_ret
      have s1 := hb1.size
      have s2 := hb2.size
      have s3 := hb3.size
      exact ⟨rfl, (((hb1.trans (hb2.mono (by omega))).trans (hb3.mono (by omega))).trans (hb4.mono (by omega)))⟩
    · go_enter Try.func4, Try.ntmps4
      go_wp2_with fail
      refine (HX.out _).mono ?_; rintro e w' ⟨rfl, rfl⟩
      go_wp2_with fail
      refine (HY.out _).mono ?_; rintro e w' ⟨rfl, rfl⟩
      go_wp2_with fail
      refine (HZ.out _).mono ?_; rintro e w' ⟨rfl, rfl⟩
      go_wp2_with fail
      refine (HL.out _).mono ?_; rintro e w1 ⟨rfl, hb1⟩
      go_wp2_with fail
      refine (HG.out _).mono ?_; rintro e w2 ⟨rfl, hb2⟩
      go_wp2_with fail
      refine (told_any _).mono ?_; rintro e w3 ⟨rfl, hb3⟩
      go_wp2_with fail
      refine (HXX.out _).mono ?_; rintro e w4 ⟨rfl, hb4⟩
      go_wp2
      go_ret
      have s1 := hb1.size
      have s2 := hb2.size
      have s3 := hb3.size
      exact ⟨rfl, (((hb1.trans (hb2.mono (by omega))).trans (hb3.mono (by omega))).trans (hb4.mono (by omega)))⟩
  · obtain ⟨e1, e2⟩ := TX.out rfl
    obtain ⟨e3, e4⟩ := TY.out rfl
    obtain ⟨e5, e6⟩ := TZ.out rfl
    have MX' : ∀ W, Calls Try.prog 11 #[.int .i64 (a % 4 - 2), .int .i64 (b % 4 - 2)] W fun e w' => e = .returned (.complex .f64 (F x1) (F x2)) ∧ W = w' := by
      intro W
      rw [← e1, ← e2]
      exact make_any _ _ W
    have MX := Lib.hid MX'
    clear MX'
    have MY' : ∀ W, Calls Try.prog 11 #[.int .i64 (c % 4 - 2), .int .i64 (d % 4 - 2)] W fun e w' => e = .returned (.complex .f64 (F y1) (F y2)) ∧ W = w' := by
      intro W
      rw [← e3, ← e4]
      exact make_any _ _ W
    have MY := Lib.hid MY'
    clear MY'
    have MZ' : ∀ W, Calls Try.prog 11 #[.int .i64 (e % 4 - 2), .int .i64 (f % 4 - 2)] W fun e w' => e = .returned (.complex .f64 (F z1) (F z2)) ∧ W = w' := by
      intro W
      rw [← e5, ← e6]
      exact make_any _ _ W
    have MZ := Lib.hid MZ'
    clear MZ'
    clear e1 e2 e3 e4 e5 e6 FX FY FZ TX TY TZ
    rcases hcs with ⟨rfl, rfl, hB⟩ | ⟨rfl, rfl, hB⟩ | ⟨rfl, rfl, rfl, rfl⟩
    · cases t
      · go_enter Try.func4, Try.ntmps4
        go_wp2_with fail
        refine (HX.out _).mono ?_; rintro e w' ⟨rfl, rfl⟩
        go_wp2_with fail
        refine (HY.out _).mono ?_; rintro e w' ⟨rfl, rfl⟩
        go_wp2_with fail
        refine (HZ.out _).mono ?_; rintro e w' ⟨rfl, rfl⟩
        go_wp2_with fail
        refine (MX.out _).mono ?_; rintro e w' ⟨rfl, rfl⟩
        go_wp2_with fail
        refine (MY.out _).mono ?_; rintro e w' ⟨rfl, rfl⟩
        go_wp2_with fail
        refine (MZ.out _).mono ?_; rintro e w' ⟨rfl, rfl⟩
        go_wp2_with fail
        refine (HL.out _).mono ?_; rintro e w1 ⟨rfl, hb1⟩
        go_wp2_with fail
        refine (HG.out _).mono ?_; rintro e w2 ⟨rfl, hb2⟩
        go_wp2_with fail
        refine (told_any _).mono ?_; rintro e w3 ⟨rfl, hb3⟩
        go_wp2_with fail
        refine (HT.out _).mono ?_; rintro e w4 ⟨rfl, hb4⟩
        go_wp2_with fail
        refine (HXX.out _).mono ?_; rintro e w5 ⟨rfl, hb5⟩
        go_wp2
        go_ret
        have s1 := hb1.size
        have s2 := hb2.size
        have s3 := hb3.size
        have s4 := hb4.size
        exact ⟨rfl, ((((hb1.trans (hb2.mono (by omega))).trans (hb3.mono (by omega))).trans (hb4.mono (by omega))).trans (hb5.mono (by omega)))⟩
      · have HZ3 := HTR rfl rfl
        go_enter Try.func4, Try.ntmps4
        go_wp2_with fail
        refine (HX.out _).mono ?_; rintro e w' ⟨rfl, rfl⟩
        go_wp2_with fail
        refine (HY.out _).mono ?_; rintro e w' ⟨rfl, rfl⟩
        go_wp2_with fail
        refine (HZ.out _).mono ?_; rintro e w' ⟨rfl, rfl⟩
        go_wp2_with fail
        refine (MX.out _).mono ?_; rintro e w' ⟨rfl, rfl⟩
        go_wp2_with fail
        refine (MY.out _).mono ?_; rintro e w' ⟨rfl, rfl⟩
        go_wp2_with fail
        refine (MZ.out _).mono ?_; rintro e w' ⟨rfl, rfl⟩
        go_wp2_with fail
        refine (HL.out _).mono ?_; rintro e w1 ⟨rfl, hb1⟩
        go_wp2_with fail
        refine (HG.out _).mono ?_; rintro e w2 ⟨rfl, hb2⟩
        go_wp2_with fail
        refine (told_any _).mono ?_; rintro e w3 ⟨rfl, hb3⟩
        go_wp2_with fail
        refine (HT.out _).mono ?_; rintro e w4 ⟨rfl, hb4⟩
        go_wp2_with fail
        refine (HZ3.out _).mono ?_; rintro e w5 ⟨rfl, hb5⟩
        go_wp2_with fail
        refine (HXX.out _).mono ?_; rintro e w6 ⟨rfl, hb6⟩
        go_wp2
        go_ret
        have s1 := hb1.size
        have s2 := hb2.size
        have s3 := hb3.size
        have s4 := hb4.size
        have s5 := hb5.size
        exact ⟨rfl, (((((hb1.trans (hb2.mono (by omega))).trans (hb3.mono (by omega))).trans (hb4.mono (by omega))).trans (hb5.mono (by omega))).trans (hb6.mono (by omega)))⟩
    · go_enter Try.func4, Try.ntmps4
      go_wp2_with fail
      refine (HX.out _).mono ?_; rintro e w' ⟨rfl, rfl⟩
      go_wp2_with fail
      refine (HY.out _).mono ?_; rintro e w' ⟨rfl, rfl⟩
      go_wp2_with fail
      refine (HZ.out _).mono ?_; rintro e w' ⟨rfl, rfl⟩
      go_wp2_with fail
      refine (MX.out _).mono ?_; rintro e w' ⟨rfl, rfl⟩
      go_wp2_with fail
      refine (MY.out _).mono ?_; rintro e w' ⟨rfl, rfl⟩
      go_wp2_with fail
      refine (MZ.out _).mono ?_; rintro e w' ⟨rfl, rfl⟩
      go_wp2_with fail
      refine (HL.out _).mono ?_; rintro e w1 ⟨rfl, hb1⟩
      go_wp2_with fail
      refine (HG.out _).mono ?_; rintro e w2 ⟨rfl, hb2⟩
      go_wp2_with fail
      refine (told_any _).mono ?_; rintro e w3 ⟨rfl, hb3⟩
      go_wp2_with fail
      refine (HXX.out _).mono ?_; rintro e w4 ⟨rfl, hb4⟩
      go_wp2
      go_ret
      have s1 := hb1.size
      have s2 := hb2.size
      have s3 := hb3.size
      exact ⟨rfl, (((hb1.trans (hb2.mono (by omega))).trans (hb3.mono (by omega))).trans (hb4.mono (by omega)))⟩
    · go_enter Try.func4, Try.ntmps4
      go_wp2_with fail
      refine (HX.out _).mono ?_; rintro e w' ⟨rfl, rfl⟩
      go_wp2_with fail
      refine (HY.out _).mono ?_; rintro e w' ⟨rfl, rfl⟩
      go_wp2_with fail
      refine (HZ.out _).mono ?_; rintro e w' ⟨rfl, rfl⟩
      go_wp2_with fail
      refine (MX.out _).mono ?_; rintro e w' ⟨rfl, rfl⟩
      go_wp2_with fail
      refine (MY.out _).mono ?_; rintro e w' ⟨rfl, rfl⟩
      go_wp2_with fail
      refine (MZ.out _).mono ?_; rintro e w' ⟨rfl, rfl⟩
      go_wp2_with fail
      refine (HL.out _).mono ?_; rintro e w1 ⟨rfl, hb1⟩
      go_wp2_with fail
      refine (HG.out _).mono ?_; rintro e w2 ⟨rfl, hb2⟩
      go_wp2_with fail
      refine (told_any _).mono ?_; rintro e w3 ⟨rfl, hb3⟩
      go_wp2_with fail
      refine (HXX.out _).mono ?_; rintro e w4 ⟨rfl, hb4⟩
      go_wp2
      go_ret
      have s1 := hb1.size
      have s2 := hb2.size
      have s3 := hb3.size
      exact ⟨rfl, (((hb1.trans (hb2.mono (by omega))).trans (hb3.mono (by omega))).trans (hb4.mono (by omega)))⟩

end Go.Proofs.Ytdificidpjjhpaa
