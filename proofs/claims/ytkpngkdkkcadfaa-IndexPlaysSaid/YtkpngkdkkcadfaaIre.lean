/- The document's own answer for package index: Find. -/
import Derived.Test.YtkpngkdkkcadfaaIrd
namespace Go.Proofs.Ytkpngkdkkcadfaa
open Go.RowKit Mk

theorem ord_cx {n m : Int} (hn : n.natAbs ≤ 2 ^ 53) (hm : m.natAbs ≤ 2 ^ 53) : (FloatKind.f64.format.order (Flo.F n) (Flo.F m) == some .eq) = decide (n = m) := floatEq_F hn hm
/-- Two sums compared, part by part. -/
theorem cx_cmp (z z' : Cx) : ∃ a b c d : Nat, cxV z = .complex .f64 a b ∧ cxV z' = .complex .f64 c d ∧ ((z = z' ∧ (FloatKind.f64.format.order a c == some .eq) = true ∧ (FloatKind.f64.format.order b d == some .eq) = true) ∨ (z ≠ z' ∧ (FloatKind.f64.format.order a c == some .eq) = true ∧ (FloatKind.f64.format.order b d == some .eq) = false) ∨ (z ≠ z' ∧ (FloatKind.f64.format.order a c == some .eq) = false ∧ ∃ e, (FloatKind.f64.format.order b d == some .eq) = e)) := by
  refine ⟨_, _, _, _, rfl, rfl, ?_⟩
  rw [ord_cx z.2.1 z'.2.1, ord_cx z.2.2 z'.2.2]
  by_cases h1 : z.1.1 = z'.1.1
  · by_cases h2 : z.1.2 = z'.1.2
    · exact .inl ⟨cx_ext h1 h2, by simpa using h1, by simpa using h2⟩
    · exact .inr (.inl ⟨fun e => h2 (by rw [e]), by simpa using h1, by simpa using h2⟩)
  · exact .inr (.inr ⟨fun e => h1 (by rw [e]), by simpa using h1, _, rfl⟩)
def FIr (G : Int → Nat → Nat) (S : Ki → Option Cx) (g : Nat → Nat) (nt x : Int) (r : Bool) : Prop := (r = true ∧ Hit G S g nt x ∧ ∀ k', Hit G S g nt k' → x ≤ k') ∨ (r = false ∧ x = 0 ∧ ∀ k, ¬ Hit G S g nt k)
theorem FIr.unique {G : Int → Nat → Nat} {S : Ki → Option Cx} {g : Nat → Nat} {nt x x' : Int} {r r' : Bool} (h : FIr G S g nt x r) (k : FIr G S g nt x' r') : x = x' ∧ r = r' := by
  rcases h with ⟨rfl, h1, h2⟩ | ⟨rfl, rfl, h1⟩
  · rcases k with ⟨rfl, k1, k2⟩ | ⟨rfl, _, k1⟩
    · exact ⟨by have := h2 _ k1; have := k2 _ h1; omega, rfl⟩
    · exact absurd h1 (k1 _)
  · rcases k with ⟨rfl, k1, k2⟩ | ⟨rfl, rfl, k1⟩
    · exact absurd k1 (h1 _)
    · exact ⟨rfl, rfl⟩
def FiP (w : World) (xs : List Is) (G : Int → Nat → Nat) (S : Ki → Option Cx) (g : Nat → Nat) (nt : Int) (n : Nat) (v : Value) (wr : World) : Prop := ∃ i : Nat, v = .int .i64 i ∧ i ≤ n ∧ (∀ j x, j < i → xs[j]? = some x → ¬ Hit G S g nt x.1) ∧ wr = w
set_option maxRecDepth 100000 in
theorem pg_eq {w : World} {b b' cc cc' : Nat} {g g' : Nat → Nat} (h : Pg w b g) (h' : Pg w b' g') (hg : ∀ j, g j < 256) (hg' : ∀ j, g' j < 256) : ∃ x y, (convert 30 9 (.slice (some ⟨b, 0, none⟩) 4096 cc)).run Try.prog w = .ok (.string x) w ∧ (convert 30 9 (.slice (some ⟨b', 0, none⟩) 4096 cc')).run Try.prog w = .ok (.string y) w ∧ ((x.toList == y.toList) = true ↔ ∀ j, j < 4096 → g j = g' j) := by
  refine ⟨_, _, pg_convert h cc, pg_convert h' cc', ?_⟩
  rw [beq_iff_eq, Lib.strOfNums_toList, Lib.strOfNums_toList]
  constructor
  · intro h9
    refine nums_inj hg hg' ?_
    have h8 : (strOfNums (byI g 4096)).data.toList = (strOfNums (byI g' 4096)).data.toList := h9
    exact ByteArray.ext (Array.toList_inj.1 h8)
  · intro h9
    rw [byI_congr h9]
set_option maxRecDepth 100000 in
set_option maxHeartbeats 8000000 in
theorem rxfind {w : World} {W c : Nat} {vF v : Value} {xs : List Is} {S : Ki → Option Cx} {G : Int → Nat → Nat} {N : Nat → Prop} (h : RX w W c vF v xs G N) (hs : XSim xs S) (hd : D12 S) (hG : ∀ k j, G k j < 256) {b cap : Nat} {g : Nat → Nat} (hp : Pg w b g) (hg : ∀ j, g j < 256) (nt : Int) :
    Calls Try.prog 16 #[.pointer (some ⟨c, 0, none⟩), .slice (some ⟨b, 0, none⟩) 4096 cap, .int .i64 nt] w fun e w' => ∃ x r, e = .returned (.tuple #[.int .i64 x, .bool r]) ∧ FIr G S g nt x r ∧ w = w' := by
  have hn := hs.len hd
  obtain ⟨A, cc, rfl⟩ := h.own.form
  obtain ⟨n, hnn⟩ : ∃ n, xs.length = n := ⟨_, rfl⟩
  rw [hnn] at hn
  rw [hnn] at h
  have HN := Lib.hid hnn
  have HR := Lib.hid h
  have HS := Lib.hid hs
  have HD := Lib.hid hd
  have HG := Lib.hid (show (∀ k j, G k j < 256) ∧ (∀ j, g j < 256) from ⟨hG, hg⟩)
  have HP := Lib.hid hp
  have C := Lib.hid (rof (cap := cap) hp hg)
  obtain ⟨z, hz⟩ : ∃ z, dig g = z := ⟨_, rfl⟩
  rw [hz] at C
  have HZ := Lib.hid hz
  have c1 := HR.out.c1
  clear h hs hd hG hg hp hnn hz
  go_enter Try.func16, Try.ntmps16
  go_wp2_with fail
  refine C.out.mono ?_; rintro e _ ⟨rfl, rfl⟩
  clear C
  have HCX := Lib.hid (fun z' => cx_cmp z' z)
  obtain ⟨cr, ci, hzv⟩ : ∃ a b, cxV z = .complex .f64 a b := ⟨_, _, rfl⟩
  rw [hzv]
  have HZV := Lib.hid hzv
  clear hzv
  go_wp2_with fail
  go_loopw [10] (FiP w xs G S g nt n) (fun v _ => n - cntI v)
  case atStart => exact ⟨0, rfl, Nat.zero_le _, fun j x hj => by omega, rfl⟩
  case round =>
    obtain ⟨i, rfl, hi, hno, rfl⟩ := hrel
    have HNO := Lib.hid hno
    clear hno
    by_cases hin : i < n
    · have g1 : decide ((i : Int) < (n : Int)) = true := by simp; exact hin
      have g1' : decide (i < n) = true := by simp; exact hin
      have hin2 : (i : Int) < (n : Int) := by omega
      obtain ⟨⟨f', z'⟩, hx⟩ : ∃ x, xs[i]? = some x := ⟨_, List.getElem?_eq_getElem (by rw [HN.out]; exact hin)⟩
      obtain ⟨gl, rfl, d0, d1'⟩ := HR.out.own.cells hx
      have HX := Lib.hid hx
      replace d0 : wr.cell? ⟨gl, i * 2, none⟩ = some (.int .i64 f') := d0
      obtain ⟨hwf, hS⟩ := (HS.out.2 f' z').1 (List.mem_of_getElem? hx)
      have hr12 := HD.out _ _ hS
      simp only at hr12
      have HSS := Lib.hid hS
      obtain ⟨a', b', c', d', e1, e2, hcs⟩ := HCX.out z'
      rw [HZV.out] at e2
      cases e2
      have d1 : wr.cell? ⟨gl, i * 2 + 1, none⟩ = some (.complex .f64 a' b') := by rw [← e1]; exact d1'
      have HCS := Lib.hid hcs
      clear d1' e1 hcs
      have HDF : Hid (∀ t : Ki, ∀ y, S t = some y → t.1 = f' → y = z') := Lib.hid fun t y ht e => by
        have : S t = S ⟨f', hwf⟩ := by congr 1; exact Subtype.ext e
        rw [this, hS] at ht; exact (Option.some.inj ht).symm
      clear hx hS
      go_wp2_with fail
      refine (rxget HR.out f').mono ?_; rintro e _ ⟨rfl, ⟨kf, p, c2, hkf, hk12, rfl, hp⟩ | ⟨h0, rfl⟩⟩
      · obtain ⟨x, y, hc1, hc2, hxy⟩ := pg_eq (cc := c2) (cc' := cap) hp HP.out (HG.out.1 kf) HG.out.2
        have HXY := Lib.hid hxy
        have HKF := Lib.hid hkf
        clear hxy hkf hp hk12
        by_cases hnt : f' = nt
        · have q1 : (f' == nt) = true := by simpa using hnt
          have q1' : (f' != nt) = false := by simpa using hnt
          have HNH := Lib.hid (show ¬ Hit G S g nt f' from fun h => h.2.1 hnt)
          clear hnt
          go_wp2
          refine ⟨⟨i + 1, by go_num, by omega, fun j x hj hx => ?_, rfl⟩, by simp [cntI]; omega⟩
          by_cases hjk : j = i
          · subst hjk; rw [HX.out] at hx; cases hx; exact HNH.out
          · exact HNO.out j x (by omega) hx
        · have q1 : (f' == nt) = false := by simpa using hnt
          have q1' : (f' != nt) = true := by simpa using hnt
          have HNT := Lib.hid hnt
          clear hnt
          rcases HCS.out with ⟨hzz, o1, o2⟩ | ⟨hzz, o1, o2⟩ | ⟨hzz, o1, _, o2⟩
          · have HZZ := Lib.hid hzz
            clear hzz
            by_cases hb : (x.toList == y.toList) = true
            · have HIT := Lib.hid (show Hit G S g nt f' from ⟨⟨hwf, by rw [HSS.out, HZZ.out, HZ.out]⟩, HNT.out, by have := HXY.out.1 hb; rw [HKF.out]; exact this⟩)
              go_wp2
              go_ret2
              refine ⟨f', true, rfl, .inl ⟨rfl, HIT.out, fun k' hk' => ?_⟩, rfl⟩
              obtain ⟨⟨h9, e9⟩, _⟩ := id hk'
              obtain ⟨j, hj⟩ := List.mem_iff_getElem?.1 ((HS.out.2 _ _).2 ⟨h9, e9⟩)
              rcases Nat.lt_or_ge j i with h3 | h3
              · exact absurd hk' (HNO.out j _ h3 hj)
              · by_cases e : j = i
                · subst e; rw [HX.out] at hj; cases hj; exact Int.le_refl _
                · have := (HS.out.at_ HX.out hj).1 (by omega)
                  simp only at this; omega
            · have hb : (x.toList == y.toList) = false := by simpa using hb
              have HNH := Lib.hid (show ¬ Hit G S g nt f' from fun h => by
                have := HXY.out.2 (by have h2 := h.2.2; rw [HKF.out] at h2; exact h2)
                rw [hb] at this; cases this)
              go_wp2
              refine ⟨⟨i + 1, by go_num, by omega, fun j x hj hx => ?_, rfl⟩, by simp [cntI]; omega⟩
              by_cases hjk : j = i
              · subst hjk; rw [HX.out] at hx; cases hx; exact HNH.out
              · exact HNO.out j x (by omega) hx
          · have HNH := Lib.hid (show ¬ Hit G S g nt f' from fun ⟨⟨_, e⟩, _⟩ => hzz ((HDF.out _ _ e rfl).symm.trans HZ.out))
            clear hzz
            go_wp2
            refine ⟨⟨i + 1, by go_num, by omega, fun j x hj hx => ?_, rfl⟩, by simp [cntI]; omega⟩
            by_cases hjk : j = i
            · subst hjk; rw [HX.out] at hx; cases hx; exact HNH.out
            · exact HNO.out j x (by omega) hx
          · have HNH := Lib.hid (show ¬ Hit G S g nt f' from fun ⟨⟨_, e⟩, _⟩ => hzz ((HDF.out _ _ e rfl).symm.trans HZ.out))
            clear hzz
            go_wp2
            refine ⟨⟨i + 1, by go_num, by omega, fun j x hj hx => ?_, rfl⟩, by simp [cntI]; omega⟩
            by_cases hjk : j = i
            · subst hjk; rw [HX.out] at hx; cases hx; exact HNH.out
            · exact HNO.out j x (by omega) hx
      · exact absurd hr12 h0
    · obtain rfl : i = n := by omega
      have g1 : decide ((i : Int) < (i : Int)) = false := by simp
      go_wp2
      go_ret2
      refine ⟨0, false, rfl, .inr ⟨rfl, rfl, fun k hk => ?_⟩, rfl⟩
      obtain ⟨⟨h9, e9⟩, _⟩ := id hk
      obtain ⟨j, hj⟩ := List.mem_iff_getElem?.1 ((HS.out.2 _ _).2 ⟨h9, e9⟩)
      exact HNO.out j _ (by have := (List.getElem?_eq_some_iff.1 hj).1; have := HN.out; omega) hj hk
/-- A page of one byte. -/
theorem rxfind1 {w : World} {W c : Nat} {vF v : Value} {xs : List Is} {G : Int → Nat → Nat} {N : Nat → Prop} (h : RX w W c vF v xs G N) (A1 : Option Addr) (cap : Nat) (nt : Int) :
    Calls Try.prog 16 #[.pointer (some ⟨c, 0, none⟩), .slice A1 1 cap, .int .i64 nt] w fun e w' => e = .returned (.tuple #[.int .i64 0, .bool false]) ∧ w = w' := by
  obtain ⟨A, cc, rfl⟩ := h.own.form
  obtain ⟨n, hnn⟩ : ∃ n, xs.length = n := ⟨_, rfl⟩
  rw [hnn] at h
  have c1 := h.c1
  have C : Calls Try.prog 40 #[.slice A1 1 cap] w fun e w' => e = .returned (.tuple #[.complex .f64 0 0, .int .i64 1]) ∧ w = w' := by
    clear c1 h
    go_enter Try.func40, Try.ntmps40
    go_wp2
    go_ret2
    exact ⟨rfl, rfl⟩
  have HC := Lib.hid C
  clear h C
  go_enter Try.func16, Try.ntmps16
  go_wp2_with fail
  refine HC.out.mono ?_; rintro e _ ⟨rfl, rfl⟩
  clear HC
  go_wp2_with fail
  refine wp_loop_rounds 1 ?_
  rw [rounds_succ]
  by_cases hn0 : 0 < n
  · have q1 : decide ((0 : Int) < (n : Int)) = true := by simp; exact hn0
    go_wp2
    go_ret2
    exact ⟨rfl, rfl⟩
  · have q1 : decide ((0 : Int) < (n : Int)) = false := by simp; omega
    go_wp2
    go_ret2
    exact ⟨rfl, rfl⟩
end Go.Proofs.Ytkpngkdkkcadfaa
