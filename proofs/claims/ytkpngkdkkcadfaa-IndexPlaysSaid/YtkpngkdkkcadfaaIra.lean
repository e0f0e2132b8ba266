/- The document's own answer for package index: frames' bytes, and a list; Get, at. -/
import Derived.Test.YtkpngkdkkcadfaaIxk
import Derived.Test.YtkpngkdkkcadfaaCut
import Derived.Test.YtkpngkdkkcadfaaFlat
import Derived.Test.YtkpngkdkkcadfaaDigp
namespace Go.Proofs.Ytkpngkdkkcadfaa
open Go.RowKit Mk

abbrev Is := Int × Cx
def ic (x : Is) : List Value := [.int .i64 x.1, cxV x.2]
theorem ic_len (x : Is) : (ic x).length = 2 := rfl
abbrev LRow (w : World) (B : Nat) (v : Value) (xs : List Is) : Prop := w.ownsRow B 55 2 v xs.length (xs.flatMap ic)
/-- All frames' bytes; N: blocks. -/
def FR (w : World) (W : Nat) (vF : Value) (G : Int → Nat → Nat) (N : Nat → Prop) : Prop := ∃ fs : List Value, w.ownsRow W 30 1 vF 12 fs ∧ (∀ g, vF.ownBlock = some g → N g) ∧ ∀ k : Nat, k < 12 → ∃ u, fs[k]? = some u ∧ (∀ g, u.ownBlock = some g → N g) ∧ BRow w W u (G k)
/-- The reference in memory; N: its blocks but the struct's. -/
structure RX (w : World) (W c : Nat) (vF v : Value) (xs : List Is) (G : Int → Nat → Nat) (N : Nat → Prop) : Prop where
  blk : Blk w c 43 #[vF, v]
  own : LRow w W v xs
  nv : ∀ g, v.ownBlock = some g → N g
  fr : FR w W vF G N
  nc : ¬ N c
  nl : ∀ g, N g → W ≤ g ∧ g < w.heap.size
  le : W ≤ c
section
variable {w w' : World} {W c : Nat} {vF v : Value} {xs : List Is} {G : Int → Nat → Nat} {S N : Nat → Prop}
theorem FR.below (h : FR w W vF G N) (hb : Below w.heap.size w w') : FR w' W vF G N := by
  obtain ⟨fs, h1, h2, h3⟩ := h
  exact ⟨fs, own_below h1 hb, h2, fun k hk => by obtain ⟨u, a1, a2, a3⟩ := h3 k hk; exact ⟨u, a1, a2, own_below a3 hb⟩⟩
theorem FR.apart {T : Nat → Prop} (h : FR w W vF G N) (ho : Only T w w') (hT : ∀ g, N g → ¬ T g) : FR w' W vF G N := by
  obtain ⟨fs, h1, h2, h3⟩ := h
  exact ⟨fs, own_keep h1 ho fun g hg => hT g (h2 g hg), h2, fun k hk => by obtain ⟨u, a1, a2, a3⟩ := h3 k hk; exact ⟨u, a1, a2, own_keep a3 ho fun g hg => hT g (a2 g hg)⟩⟩
theorem FR.mono {N' : Nat → Prop} (h : FR w W vF G N) (hN : ∀ g, N g → N' g) : FR w W vF G N' := by
  obtain ⟨fs, h1, h2, h3⟩ := h
  exact ⟨fs, h1, fun g hg => hN g (h2 g hg), fun k hk => by obtain ⟨u, a1, a2, a3⟩ := h3 k hk; exact ⟨u, a1, fun g hg => hN g (a2 g hg), a3⟩⟩
theorem RX.below (h : RX w W c vF v xs G N) (hb : Below w.heap.size w w') : RX w' W c vF v xs G N := ⟨h.blk.below hb h.blk.lt, own_below h.own hb, h.nv, h.fr.below hb, h.nc, fun g hg => ⟨(h.nl g hg).1, Nat.lt_of_lt_of_le (h.nl g hg).2 hb.size⟩, h.le⟩
theorem RX.apart {T : Nat → Prop} (h : RX w W c vF v xs G N) (ho : Only T w w') (hc : ¬ T c) (hT : ∀ g, N g → ¬ T g) : RX w' W c vF v xs G N := ⟨h.blk.only ho hc, own_keep h.own ho fun g hg => hT g (h.nv g hg), h.nv, h.fr.apart ho hT, h.nc, fun g hg => ⟨(h.nl g hg).1, Nat.lt_of_lt_of_le (h.nl g hg).2 ho.size⟩, h.le⟩
theorem RX.drewN (h : RX w W c vF v xs G N) (q : Nat) : RX (w.drewN q) W c vF v xs G N := h.below (below_drewN (Below.refl _ _) q)
theorem RX.c0 (h : RX w W c vF v xs G N) : w.cell? ⟨c, 0, none⟩ = some vF := (h.blk.cell 0).trans rfl
theorem RX.c1 (h : RX w W c vF v xs G N) : w.cell? ⟨c, 1, none⟩ = some v := (h.blk.cell 1).trans rfl
theorem LRow.form {B : Nat} (h : LRow w B v xs) : ∃ A cc, v = .slice A xs.length cc := by
  rcases own_slice3 h with ⟨rfl, h0⟩ | ⟨g, cc, rfl, _⟩
  · exact ⟨none, 0, by rw [h0]⟩
  · exact ⟨_, _, rfl⟩
theorem LRow.cells {B : Nat} {A : Option Addr} {n cc : Nat} (h : LRow w B (.slice A n cc) xs) {k : Nat} {x : Is} (hx : xs[k]? = some x) : ∃ g, A = some ⟨g, 0, none⟩ ∧ w.cell? ⟨g, k * 2, none⟩ = some (.int .i64 x.1) ∧ w.cell? ⟨g, k * 2 + 1, none⟩ = some (cxV x.2) := by
  have hk := (List.getElem?_eq_some_iff.1 hx).1
  rcases own_slice3 h with ⟨h1, h0⟩ | ⟨g, cc', h1, _⟩
  · omega
  · injection h1 with h1 h2 h3
    subst h1 h2 h3
    exact ⟨g, rfl, (own_cell (q := 0) ic_len h hx (by decide)).trans rfl, (own_cell (q := 1) ic_len h hx (by decide)).trans rfl⟩
/-- A frame's bytes. -/
theorem FR.page (h : FR w W vF G N) {k : Nat} (hk : k < 12) : ∃ A cc b c2, vF = .slice A 12 cc ∧ A = some ⟨b, 0, none⟩ ∧ ∃ p, w.cell? ⟨b, k, none⟩ = some (.slice (some ⟨p, 0, none⟩) 4096 c2) ∧ Pg w p (G k) := by
  obtain ⟨fs, h1, _, h3⟩ := h
  obtain ⟨b, cc, rfl, _, _⟩ := h1.form (by omega)
  obtain ⟨u, hu, _, hr⟩ := h3 k hk
  obtain ⟨p, c2, rfl, _, _⟩ := hr.form (by omega)
  exact ⟨_, cc, b, c2, rfl, rfl, p, by rw [h1.cellAt k (by omega), hu], Pg.of_own hr⟩
theorem FR.form (h : FR w W vF G N) : ∃ b cc, vF = .slice (some ⟨b, 0, none⟩) 12 cc := by
  obtain ⟨fs, h1, _, _⟩ := h
  obtain ⟨b, cc, rfl, _, _⟩ := h1.form (by omega)
  exact ⟨_, _, rfl⟩

def GtIs (w : World) (G : Int → Nat → Nat) (f : Int) (e : Ending) (w' : World) : Prop := w = w' ∧ ((∃ (k p c2 : Nat), f = k ∧ k < 12 ∧ e = .returned (.tuple #[.slice (some ⟨p, 0, none⟩) 4096 c2, .bool true]) ∧ Pg w p (G k)) ∨ (¬ (0 ≤ f ∧ f < 12) ∧ e = .returned (.tuple #[.slice none 0 0, .bool false])))
set_option maxRecDepth 100000 in
theorem rxget (h : RX w W c vF v xs G N) (f : Int) : Calls Try.prog 38 #[.pointer (some ⟨c, 0, none⟩), .int .i64 f] w (GtIs w G f) := by
  obtain ⟨b, cc, rfl⟩ := h.fr.form
  have c0 := h.c0
  by_cases hf : 0 ≤ f ∧ f < 12
  · obtain ⟨k, rfl⟩ := Int.eq_ofNat_of_zero_le hf.1
    have hk : k < 12 := by omega
    obtain ⟨A, cc', b', c2, e1, rfl, p, hc, hp⟩ := h.fr.page hk
    injection e1 with e1 e2 e3
    cases e1
    have HP := Lib.hid hp
    have g1 : decide ((k : Int) < 0) = false := by simp
    have g2 : decide ((k : Int) ≥ 12) = false := by simp; omega
    have g2' : decide ((12 : Int) ≤ (k : Int)) = false := by simp; omega
    have g2'' : decide (12 ≤ k) = false := by simp; omega
    clear h hp e3 e2
    go_enter Try.func38, Try.ntmps38
    go_wp2
    go_ret2
    exact ⟨rfl, .inl ⟨k, p, c2, rfl, hk, rfl, HP.out⟩⟩
  · have HF := Lib.hid hf
    by_cases h0 : f < 0
    · have g1 : decide (f < 0) = true := by simpa using h0
      clear h hf
      go_enter Try.func38, Try.ntmps38
      go_wp2
      go_ret2
      exact ⟨rfl, .inr ⟨HF.out, rfl⟩⟩
    · have g1 : decide (f < 0) = false := by simpa using h0
      have g2 : decide (f ≥ 12) = true := by simp; omega
      have g2' : decide ((12 : Int) ≤ f) = true := by simp; omega
      clear h hf
      go_enter Try.func38, Try.ntmps38
      go_wp2
      go_ret2
      exact ⟨rfl, .inr ⟨HF.out, rfl⟩⟩
end
/-- Where a frame is, or would be. -/
structure AtL (xs : List Is) (f : Int) (k : Nat) (r : Bool) : Prop where
  le : k ≤ xs.length
  lo : ∀ j x, j < k → xs[j]? = some x → x.1 < f
  hi : ∀ x, xs[k]? = some x → f ≤ x.1
  is : r = true ↔ ∃ x, xs[k]? = some x ∧ x.1 = f
def AtP (w : World) (xs : List Is) (f : Int) (n : Nat) (v : Value) (wr : World) : Prop := ∃ k : Nat, v = .int .i64 k ∧ k ≤ n ∧ (∀ j x, j < k → xs[j]? = some x → x.1 < f) ∧ wr = w
set_option maxRecDepth 100000 in
set_option maxHeartbeats 4000000 in
theorem rxat {w : World} {W c : Nat} {vF v : Value} {xs : List Is} {G : Int → Nat → Nat} {N : Nat → Prop} (h : RX w W c vF v xs G N) (hn : xs.length ≤ 1000) (f : Int) :
    Calls Try.prog 39 #[.pointer (some ⟨c, 0, none⟩), .int .i64 f] w fun e w' => ∃ k r, e = .returned (.tuple #[.int .i64 ((k : Nat) : Int), .bool r]) ∧ AtL xs f k r ∧ ∃ q, w' = w.drewN q := by
  obtain ⟨A, cc, rfl⟩ := h.own.form
  obtain ⟨n, hn1⟩ : ∃ n, xs.length = n := ⟨_, rfl⟩
  rw [hn1] at hn
  rw [hn1] at h
  have HN := Lib.hid hn1
  have HR := Lib.hid h
  have c1 := HR.out.c1
  clear h hn1
  go_enter Try.func39, Try.ntmps39
  go_wp2_with fail
  go_loopw [6] (AtP w xs f n) (fun v _ => n - cntI v)
  case atStart => exact ⟨0, rfl, Nat.zero_le _, fun j x hj => by omega, rfl⟩
  case round =>
    obtain ⟨k, rfl, hk, hlo, rfl⟩ := hrel
    have HLO := Lib.hid hlo
    clear hlo
    by_cases hkn : k < n
    · have g1 : decide ((k : Int) < (n : Int)) = true := by simp; exact hkn
      have g1' : decide (k < n) = true := by simp; exact hkn
      have hkn2 : (k : Int) < (n : Int) := by omega
      obtain ⟨⟨f', z⟩, hx⟩ : ∃ x, xs[k]? = some x := ⟨_, List.getElem?_eq_getElem (by rw [HN.out]; exact hkn)⟩
      obtain ⟨g, rfl, d0, _⟩ := HR.out.own.cells hx
      have HX := Lib.hid hx
      clear hx
      have d0 : wr.cell? ⟨g, k * 2, none⟩ = some (.int .i64 f') := d0
      by_cases hf : f' < f
      · have hf1 : decide (f' < f) = true := by simpa using hf
        have HF := Lib.hid hf
        clear hf
        go_wp2
        refine ⟨⟨k + 1, by go_num, by omega, fun j x hj hx => ?_, rfl⟩, by simp [cntI]; omega⟩
        by_cases hjk : j = k
        · subst hjk; rw [HX.out] at hx; cases hx; exact HF.out
        · exact HLO.out j x (by omega) hx
      · have hf1 : decide (f' < f) = false := by simpa using hf
        have HF := Lib.hid hf
        clear hf
        by_cases hff : f' = f
        · have hf2 : (f' == f) = true := by simpa using hff
          have HFF := Lib.hid hff
          clear hff
          go_wp2_with fail
          go_quiet (fail)
          go_wp2
          go_ret2
          exact ⟨k, true, rfl, ⟨by have := HN.out; omega, HLO.out, fun x hx => by rw [HX.out] at hx; cases hx; have := HF.out; show f ≤ f'; omega, ⟨fun _ => ⟨_, HX.out, HFF.out⟩, fun _ => rfl⟩⟩, _, rfl⟩
        · have hf2 : (f' == f) = false := by simpa using hff
          have HFF := Lib.hid hff
          clear hff
          go_wp2_with fail
          go_quiet (fail)
          go_wp2
          go_ret2
          exact ⟨k, false, rfl, ⟨by have := HN.out; omega, HLO.out, fun x hx => by rw [HX.out] at hx; cases hx; have := HF.out; show f ≤ f'; omega, ⟨fun h => (by cases h), fun ⟨x, hx, e⟩ => (by rw [HX.out] at hx; cases hx; exact absurd e HFF.out)⟩⟩, _, rfl⟩
    · obtain rfl : k = n := by omega
      have g1 : decide ((k : Int) < (k : Int)) = false := by simp
      go_wp2_with fail
      go_quiet (fail)
      go_wp2
      go_ret2
      have hnone : xs[k]? = none := List.getElem?_eq_none (by have := HN.out; omega)
      exact ⟨k, false, rfl, ⟨by have := HN.out; omega, HLO.out, fun x hx => (by rw [hnone] at hx; cases hx), ⟨fun h => (by cases h), fun ⟨x, hx, e⟩ => (by rw [hnone] at hx; cases hx)⟩⟩, _, rfl⟩
end Go.Proofs.Ytkpngkdkkcadfaa
