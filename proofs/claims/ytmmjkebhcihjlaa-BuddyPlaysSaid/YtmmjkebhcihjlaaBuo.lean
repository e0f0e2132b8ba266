/- Package buddy and the document's own answer, side by side. -/
import Derived.Test.YtmmjkebhcihjlaaRfd
namespace Go.Proofs.Ytmmjkebhcihjlaa
open Go.RowKit

section
variable {w w' : World} {W c g fi n : Nat} {S S' : Nat → Bool}
theorem RfTo.draw (h : RfAt w W c g fi n S) (q : Nat) : RfTo w (w.drewN q) W c g fi n S := ⟨h.drewN q, (Only.refl _ _).drewN q⟩

theorem give_dec (fi n : Nat) (S : Nat → Bool) (hn : n ≤ 1500) (x y : Int) (hx : x ≤ 9223372036854775807) : ∃ (r : Int) (S' : Nat → Bool),
    (∀ (w : World) (W c : Nat) (B : Nat → Prop), BdAt w W c fi n S B → Calls Try.prog 13 #[.pointer (some ⟨c, 0, none⟩), .int .i64 x, .int .i64 y] w fun e w' => e = .returned (.int .i64 r) ∧ BdTo w w' W c fi n S' B) ∧
    (∀ (w : World) (W c g : Nat), RfAt w W c g fi n S → Calls Try.prog 14 #[.pointer (some ⟨c, 0, none⟩), .int .i64 x, .int .i64 y] w fun e w' => e = .returned (.int .i64 r) ∧ RfTo w w' W c g fi n S') := by
  by_cases hy : y < 0 ∨ 10 ≤ y
  · refine ⟨1, S, fun w W c B h => (lgive_arg0 c x y w hy).mono ?_, fun w W c g h => (rgive_arg0 c x y w hy).mono ?_⟩
    · rintro e w' ⟨rfl, q, rfl⟩; exact ⟨rfl, BdTo.draw h q⟩
    · rintro e w' ⟨rfl, q, rfl⟩; exact ⟨rfl, RfTo.draw h q⟩
  · obtain ⟨o, rfl⟩ : ∃ o : Nat, y = o := ⟨y.toNat, by omega⟩
    by_cases hb : x.tmod (2 ^ o) = 0 ∧ (fi : Int) ≤ x ∧ x ≤ ((fi + n : Nat) : Int) - 2 ^ o
    · have hb' := hb
      obtain ⟨b1, b2, b3⟩ := hb
      rw [pow_int] at b1 b3
      have b4 := tmod_nat (by omega) b1
      obtain ⟨f, rfl⟩ : ∃ f : Nat, x = f := ⟨x.toNat, by omega⟩
      rw [Int.toNat_natCast] at b4
      by_cases hs : ∃ k, f ≤ k ∧ k < f + 2 ^ o ∧ S k = true
      · refine ⟨20, S, fun w W c B h => (lgive_state h (by omega) b4 (by omega) (by omega) hs).mono ?_, fun w W c g h => (rgive_state h hn (by omega) b4 (by omega) (by omega) hs).mono ?_⟩
        · rintro e w' ⟨rfl, q, rfl⟩; exact ⟨rfl, BdTo.draw h q⟩
        · rintro e w' ⟨rfl, q, rfl⟩; exact ⟨rfl, RfTo.draw h q⟩
      · have hs' : ∀ k, f ≤ k → k < f + 2 ^ o → S k = false := fun k k1 k2 => by
          cases hk : S k
          · rfl
          · exact absurd ⟨k, k1, k2, hk⟩ hs
        exact ⟨0, Bud.more S f o, fun w W c B h => lgive_ok h (by omega) b4 (by omega) (by omega) hs', fun w W c g h => rgive_ok h hn (by omega) b4 (by omega) (by omega) hs'⟩
    · refine ⟨1, S, fun w W c B h => (lgive_arg h x (by omega) hb).mono ?_, fun w W c g h => (rgive_arg h hn x hx (by omega) hb).mono ?_⟩
      · rintro e w' ⟨rfl, q, rfl⟩; exact ⟨rfl, BdTo.draw h q⟩
      · rintro e w' ⟨rfl, q, rfl⟩; exact ⟨rfl, RfTo.draw h q⟩

theorem take_dec (fi n : Nat) (S : Nat → Bool) (hn : n ≤ 1500) (hfn : fi + n ≤ 1048576) (hrg : ∀ k, S k = true → fi ≤ k ∧ k < fi + n) (x : Int) : ∃ (f r : Int) (S' : Nat → Bool), ((r = 0 ∧ ∃ o f' : Nat, x = o ∧ o ≤ 9 ∧ f = f' ∧ f' ≤ 1048576) ∨ r ≠ 0) ∧
    (∀ (w : World) (W c : Nat) (B : Nat → Prop), BdAt w W c fi n S B → Calls Try.prog 11 #[.pointer (some ⟨c, 0, none⟩), .int .i64 x] w fun e w' => e = .returned (.tuple #[.int .i64 f, .int .i64 r]) ∧ BdTo w w' W c fi n S' B) ∧
    (∀ (w : World) (W c g : Nat), RfAt w W c g fi n S → Calls Try.prog 12 #[.pointer (some ⟨c, 0, none⟩), .int .i64 x] w fun e w' => e = .returned (.tuple #[.int .i64 f, .int .i64 r]) ∧ RfTo w w' W c g fi n S') := by
  by_cases hx : x < 0 ∨ 10 ≤ x
  · refine ⟨0, 1, S, .inr (by decide), fun w W c B h => (ltake_bad c x w hx).mono ?_, fun w W c g h => (rtake_bad c x w hx).mono ?_⟩
    · rintro e w' ⟨rfl, rfl⟩; exact ⟨rfl, BdTo.refl h⟩
    · rintro e w' ⟨rfl, rfl⟩; exact ⟨rfl, h, Only.refl _ _⟩
  · obtain ⟨o, rfl⟩ : ∃ o : Nat, x = o := ⟨x.toNat, by omega⟩
    rcases least_or S o with hno | ⟨f, k, hl⟩
    · refine ⟨0, 10, S, .inr (by decide), fun w W c B h => (ltake_none h (by omega) hno).mono ?_, fun w W c g h => (rtake h hn (by omega)).mono ?_⟩
      · rintro e w' ⟨rfl, rfl⟩; exact ⟨rfl, BdTo.refl h⟩
      · rintro e w' (⟨rfl, ht, _⟩ | ⟨f, k, hl, _⟩)
        · exact ⟨rfl, ht⟩
        · exact absurd hl.mx (hno f k hl.ok)
    · have hf := hrg f (hl.mx.all f (Nat.le_refl _) (by have := Bud.pow_pos k; omega))
      refine ⟨f, 0, Bud.less S f o, .inl ⟨rfl, o, f, rfl, by omega, rfl, by omega⟩, fun w W c B h => ltake_some h hl, fun w W c g h => (rtake h hn (by omega)).mono ?_⟩
      rintro e w' (⟨rfl, _, hno⟩ | ⟨f', k', hl', rfl, ht⟩)
      · exact absurd hl.mx (hno f k hl.ok)
      · obtain ⟨rfl, rfl⟩ := hl.unique hl'
        exact ⟨rfl, ht⟩
end

/-- Both, and the list of what was taken. -/
structure Pl (w wr : World) (cp cq gq fi n : Nat) (Sp Sq : Nat → Bool) (B : Nat → Prop) (vt : Value) (T : List (Nat × Nat)) : Prop where
  bd : BdAt wr w.heap.size cp fi n Sp B
  rf : RfAt wr w.heap.size cq gq fi n Sq
  wt : wr.ownsRow w.heap.size 34 2 vt T.length (T.flatMap pv)
  b1 : ¬ B cq
  b2 : ¬ B gq
  ap : ∀ g, vt.ownBlock = some g → ¬ B g ∧ g ≠ cq ∧ g ≠ gq
  be : Below w.heap.size w wr
/-- And the step's own block. -/
structure Pg (w wr : World) (cp cq gq fi n : Nat) (Sp Sq : Nat → Bool) (B : Nat → Prop) (vt : Value) (T : List (Nat × Nat)) (gg : Nat) (cs : Array Value) : Prop where
  pl : Pl w wr cp cq gq fi n Sp Sq B vt T
  gb : Blk wr gg 33 cs
  g1 : ¬ B gg
  g2 : gg ≠ gq
  g3 : vt.ownBlock ≠ some gg

section
variable {w wr w2 : World} {cp cq gq fi n gg : Nat} {Sp Sq Sp' Sq' : Nat → Bool} {B : Nat → Prop} {vt v2 : Value} {T T' : List (Nat × Nat)} {cs : Array Value}
theorem Pl.below (h : Pl w wr cp cq gq fi n Sp Sq B vt T) (hb : Below wr.heap.size wr w2) : Pl w w2 cp cq gq fi n Sp Sq B vt T := ⟨h.bd.below hb, h.rf.below hb, own_below h.wt hb, h.b1, h.b2, h.ap, h.be.trans (hb.mono h.be.size)⟩
theorem Pg.below (h : Pg w wr cp cq gq fi n Sp Sq B vt T gg cs) (hb : Below wr.heap.size wr w2) : Pg w w2 cp cq gq fi n Sp Sq B vt T gg cs := ⟨h.pl.below hb, h.gb.below hb h.gb.lt, h.g1, h.g2, h.g3⟩
theorem Pg.drewN (h : Pg w wr cp cq gq fi n Sp Sq B vt T gg cs) (q : Nat) : Pg w (wr.drewN q) cp cq gq fi n Sp Sq B vt T gg cs := h.below (below_drewN (Below.refl _ _) q)
theorem Pg.p (h : Pg w wr cp cq gq fi n Sp Sq B vt T gg cs) (ht : BdTo wr w2 w.heap.size cp fi n Sp' B) : ∃ B', Pg w w2 cp cq gq fi n Sp' Sq B' vt T gg cs := by
  have h2 := ht.bel h.pl.be h.pl.bd (Nat.le_refl _)
  have h3 := ht.own h.pl.wt (fun g hg => (h.pl.ap g hg).1)
  obtain ⟨B', hb, ho, hs⟩ := ht
  have key : ∀ g, g < wr.heap.size → ¬ B g → ¬ B' g := fun g hg hB hB' => by
    rcases hs g hB' with h4 | h4
    · exact hB h4
    · omega
  refine ⟨B', ⟨hb, h.pl.rf.apart ho h.pl.b1 h.pl.b2, h3, key _ h.pl.rf.blk.lt h.pl.b1, key _ (h.pl.rf.on.lt _ rfl).2 h.pl.b2, fun g hg => ⟨key g (h.pl.wt.lt g hg).2 (h.pl.ap g hg).1, (h.pl.ap g hg).2⟩, h2⟩, h.gb.only ho h.g1, key _ h.gb.lt h.g1, h.g2, h.g3⟩
theorem Pg.q (h : Pg w wr cp cq gq fi n Sp Sq B vt T gg cs) (ht : RfTo wr w2 w.heap.size cq gq fi n Sq') : Pg w w2 cp cq gq fi n Sp Sq' B vt T gg cs := by
  obtain ⟨h1, ho⟩ := ht
  exact ⟨⟨h.pl.bd.apart ho (fun g hB e => h.pl.b2 (by rw [← e]; exact hB)), h1, own_apart h.pl.wt ho (fun g hg e => (h.pl.ap g hg).2.2 e), h.pl.b1, h.pl.b2, h.pl.ap, h.pl.be.trans (ho.to_below (fun k hk => by rw [hk]; exact (h.pl.rf.on.lt _ rfl).1) h.pl.be.size)⟩, h.gb.only ho h.g2, h.g1, h.g2, h.g3⟩
theorem Pg.app (h : Pg w wr cp cq gq fi n Sp Sq B vt T gg cs) (hown : w2.ownsRow w.heap.size 34 2 v2 T'.length (T'.flatMap pv)) (hg : wr.grownBy w2 vt.ownBlock) (ha : v2.ownBlock = vt.ownBlock ∨ ∃ g, v2.ownBlock = some g ∧ wr.heap.size ≤ g) : Pg w w2 cp cq gq fi n Sp Sq B v2 T' gg cs := by
  have ho : Only (fun k => vt.ownBlock = some k) wr w2 := (Only.refl _ wr).grown hg (fun g e => .inl e)
  refine ⟨⟨h.pl.bd.apart ho (fun g hB e => (h.pl.ap g e).1 hB), h.pl.rf.apart ho (fun e => (h.pl.ap _ e).2.1 rfl) (fun e => (h.pl.ap _ e).2.2 rfl), hown, h.pl.b1, h.pl.b2, fun g hg2 => ?_, h.pl.be.grown hg h.pl.be.size (fun k e => (h.pl.wt.lt k e).1)⟩, h.gb.only ho h.g3, h.g1, h.g2, ?_⟩
  · rcases ha with ha | ⟨g', ha, hl⟩
    · rw [ha] at hg2; exact h.pl.ap g hg2
    · rw [ha] at hg2; cases hg2
      refine ⟨fun hB => by have := (h.pl.bd.lt hB).2; omega, fun e => by have := h.pl.rf.blk.lt; omega, fun e => by have h9 : gq < wr.heap.size := (h.pl.rf.on.lt _ rfl).2; omega⟩
  · rcases ha with ha | ⟨g', ha, hl⟩
    · rw [ha]; exact h.g3
    · rw [ha]; intro e; cases e
      have := h.gb.lt; omega
/-- The step is laid. -/
theorem Pl.lay (h : Pl w wr cp cq gq fi n Sp Sq B vt T) (cs : Array Value) : Pg w (wr.alloc (.cells cs 33)) cp cq gq fi n Sp Sq B vt T wr.heap.size cs :=
  ⟨h.below ((Below.refl _ _).alloc (Nat.le_refl _) _), Blk.new wr _ cs, fun hB => by have := (h.bd.lt hB).2; omega, fun e => by have h9 : gq < wr.heap.size := (h.rf.on.lt _ rfl).2; omega, fun e => by have := (h.wt.lt _ e).2; omega⟩
end
end Go.Proofs.Ytmmjkebhcihjlaa
