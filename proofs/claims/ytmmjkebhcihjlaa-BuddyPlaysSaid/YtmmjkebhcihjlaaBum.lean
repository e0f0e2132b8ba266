/- Package buddy's memory: ten rows of runs behind one struct; put and cut. -/
import Derived.Test.YtmmjkebhcihjlaaSlc
import Derived.Test.YtmmjkebhcihjlaaOnly
import Derived.Test.YtmmjkebhcihjlaaTakz
import Derived.WalkKit
import Derived.Lib.Hide
import Derived.WalkMore
import Derived.BigGuard
import Derived.BigCall
import Derived.CellFam
import Derived.Deep.QuietTactic
import Derived.Deep.Draws
import Derived.BigQuiet
namespace Go.Proofs.Ytmmjkebhcihjlaa
open Go.RowKit

/-- The struct's cells. -/
def bcells (fi en : Int) (vs : Nat → Value) (fr : Int) : Array Value := #[.int .i64 fi, .int .i64 en, vs 0, vs 1, vs 2, vs 3, vs 4, vs 5, vs 6, vs 7, vs 8, vs 9, .int .i64 fr]
def upd {α : Type} (f : Nat → α) (o : Nat) (x : α) : Nat → α := fun k => if k = o then x else f k

theorem lt10 {o : Nat} (h : o < 10) : o = 0 ∨ o = 1 ∨ o = 2 ∨ o = 3 ∨ o = 4 ∨ o = 5 ∨ o = 6 ∨ o = 7 ∨ o = 8 ∨ o = 9 := by omega
theorem bcells_get {fi en fr : Int} {vs : Nat → Value} {o : Nat} (ho : o < 10) : (bcells fi en vs fr)[2 + o]? = some (vs o) := by
  rcases lt10 ho with rfl | rfl | rfl | rfl | rfl | rfl | rfl | rfl | rfl | rfl <;> rfl
theorem bcells_set {fi en fr : Int} {vs : Nat → Value} {o : Nat} (ho : o < 10) (v : Value) : (bcells fi en vs fr).setIfInBounds (2 + o) v = bcells fi en (upd vs o v) fr := by
  rcases lt10 ho with rfl | rfl | rfl | rfl | rfl | rfl | rfl | rfl | rfl | rfl <;> rfl

structure BudAt (w : World) (c base : Nat) (fi en fr : Int) (vs : Nat → Value) (R : Nat → List Int) : Prop where
  blk : Blk w c 54 (bcells fi en vs fr)
  own : ∀ o, o < 10 → w.ownsRow base 3 1 (vs o) (R o).length ((R o).map iv)
  lo : c < base
  apart : ∀ o p, o < 10 → p < 10 → o ≠ p → (vs o).ownBlock = none ∨ (vs o).ownBlock ≠ (vs p).ownBlock

/-- What a buddy's calls may turn. -/
def BS (c : Nat) (vs : Nat → Value) : Nat → Prop := fun j => j = c ∨ ∃ o, o < 10 ∧ (vs o).ownBlock = some j

section
variable {w w' : World} {c base : Nat} {fi en fr : Int} {vs : Nat → Value} {R : Nat → List Int}
theorem BudAt.cr (h : BudAt w c base fi en fr vs R) {o : Nat} (ho : o < 10) : w.cell? ⟨c, 2 + o, none⟩ = some (vs o) := by
  rw [h.blk.cell, bcells_get ho]
theorem BudAt.frozen (h : BudAt w c base fi en fr vs R) (k : Nat) : w.frozen? ⟨c, k, none⟩ = false := h.blk.frozen k
theorem BudAt.below (h : BudAt w c base fi en fr vs R) (hb : Below w.heap.size w w') : BudAt w' c base fi en fr vs R :=
  ⟨h.blk.below hb h.blk.lt, fun o ho => h.own o ho |>.kept (only_of_below hb none) (by cases (vs o).ownBlock with | none => exact .inl rfl | some g => exact .inr (fun e => by cases e)), h.lo, h.apart⟩
theorem BudAt.drewN (h : BudAt w c base fi en fr vs R) (q : Nat) : BudAt (w.drewN q) c base fi en fr vs R := h.below (below_drewN (Below.refl _ _) q)
theorem BudAt.form (h : BudAt w c base fi en fr vs R) {o : Nat} (ho : o < 10) : ∃ A m k, vs o = .slice A m k := by
  rcases (h.own o ho).2 with ⟨e, _⟩ | ⟨g, cap, cur, e, _⟩
  · exact ⟨_, _, _, e⟩
  · exact ⟨_, _, _, e⟩

/-- A row is another one. -/
theorem BudAt.put (h : BudAt w c base fi en fr vs R) {o : Nat} (ho : o < 10) {v : Value} {xs : List Int} (hg : w.grownBy w' (vs o).ownBlock) (hv : w'.ownsRow base 3 1 v xs.length (xs.map iv)) (hf : v.ownBlock = (vs o).ownBlock ∨ ∃ g, v.ownBlock = some g ∧ w.heap.size ≤ g) :
    BudAt (w'.setCell ⟨c, 2 + o, none⟩ v) c base fi en fr (upd vs o v) (upd R o xs) ∧ Only (BS c vs) w (w'.setCell ⟨c, 2 + o, none⟩ v) := by
  have hc : (vs o).ownBlock ≠ some c := fun e => by have := ((h.own o ho).lt c e).1; have := h.lo; omega
  have hb : Blk w' c 54 (bcells fi en vs fr) := h.blk.grown hg (fun e => hc e.symm)
  have hs : w'.grownBy (w'.setCell ⟨c, 2 + o, none⟩ v) (some c) := only_setCell (World.grownBy.refl w' _) (.inl rfl) _
  have hlt : ∀ p g, p < 10 → (vs p).ownBlock = some g → g < w.heap.size ∧ base ≤ g := fun p g hp e => ⟨((h.own p hp).lt g e).2, ((h.own p hp).lt g e).1⟩
  refine ⟨⟨?_, fun p hp => ?_, h.lo, fun p q hp hq hpq => ?_⟩, ?_⟩
  · have := hb.set_ (2 + o) v
    rw [bcells_set ho] at this
    exact this
  · unfold upd
    by_cases e : p = o
    · rw [if_pos e, if_pos e]
      refine hv.kept hs (.inr fun e2 => ?_)
      have := (hv.lt c e2).1
      have := h.lo
      omega
    · rw [if_neg e, if_neg e]
      have h1 := (h.own p hp).kept hg (h.apart p o hp ho e)
      refine h1.kept hs (.inr fun e2 => ?_)
      have := ((h.own p hp).lt c e2).1
      have := h.lo
      omega
  · unfold upd
    by_cases e : p = o
    · subst e
      rw [if_pos rfl, if_neg (Ne.symm hpq)]
      rcases hf with hf | ⟨g, hf, hg2⟩
      · rw [hf]; exact h.apart p q hp hq hpq
      · right; rw [hf]; intro e2
        have := (hlt q g hq e2.symm).1
        omega
    · rw [if_neg e]
      by_cases e2 : q = o
      · subst e2
        rw [if_pos rfl]
        rcases hf with hf | ⟨g, hf, hg2⟩
        · rw [hf]; exact h.apart p q hp hq hpq
        · cases hv3 : (vs p).ownBlock with
          | none => exact .inl rfl
          | some g' =>
            right; rw [hf]; intro e3
            have := (hlt p g' hp hv3).1
            cases e3; omega
      · rw [if_neg e2]; exact h.apart p q hp hq hpq
  · exact ((Only.refl (BS c vs) w).grown hg (fun g e => .inl (.inr ⟨o, ho, e⟩))).setCell (p := ⟨c, 2 + o, none⟩) (.inl (.inl rfl)) v
end

/-- A row of one's own, other blocks turned. -/
theorem own_apart {S : Nat → Prop} {w w' : World} {base size n : Nat} {e : TypeId} {v : Value} {xs : List Value} (h : w.ownsRow base e size v n xs) (ho : Only S w w') (hv : ∀ g, v.ownBlock = some g → ¬ S g) : w'.ownsRow base e size v n xs := by
  obtain ⟨h1, h2⟩ := h
  refine ⟨h1, ?_⟩
  rcases h2 with h2 | ⟨g, cap, cur, e1, e2, e3, e4⟩
  · exact .inl h2
  · have hlt : g < w.heap.size := (Array.getElem?_eq_some_iff.1 e3).1
    subst e1
    exact .inr ⟨g, cap, cur, rfl, e2, (ho.block g hlt (hv g rfl)).trans e3, e4⟩

theorem own_form {w : World} {base size n : Nat} {e : TypeId} {v : Value} {xs : List Value} (h : w.ownsRow base e size v n xs) : ∃ A m c, v = .slice A m c := by
  rcases h.2 with ⟨rfl, _⟩ | ⟨g, cap, cur, rfl, _⟩
  · exact ⟨_, _, _, rfl⟩
  · exact ⟨_, _, _, rfl⟩

/-- A frame put into a rising row. -/
def putL (x : Int) (l : List Int) : List Int := l.take (l.countP (· < x)) ++ x :: l.drop (l.countP (· < x))
/-- A frame cut out of it. -/
def cutL (x : Int) (l : List Int) : List Int := l.take (l.countP (· < x)) ++ l.drop (l.countP (· < x) + 1)

def PutIs (w : World) (c base : Nat) (fi en fr : Int) (vs : Nat → Value) (R : Nat → List Int) (o : Nat) (xs : List Int) (w' : World) : Prop :=
  ∃ v', BudAt w' c base fi en fr (upd vs o v') (upd R o xs) ∧ Only (BS c vs) w w' ∧ (v'.ownBlock = (vs o).ownBlock ∨ ∃ g, v'.ownBlock = some g ∧ w.heap.size ≤ g)

set_option maxRecDepth 100000 in
set_option maxHeartbeats 4000000 in
theorem bput_any (c base o : Nat) (fi en fr x : Int) (vs : Nat → Value) (R : Nat → List Int) (w : World) (h : BudAt w c base fi en fr vs R) (ho : o < 10) (hs : (R o).Pairwise (· < ·)) (hn : (R o).length ≤ 3000000) (hbase : base ≤ w.heap.size) :
    Calls Try.prog 23 #[.pointer (some ⟨c, 0, none⟩), .int .i64 x, .int .i64 o] w fun e w' => e = .returned (.tuple #[]) ∧ PutIs w c base fi en fr vs R o (putL x (R o)) w' := by
  have HB := Lib.hid h
  have HS := Lib.hid hs
  have c0 := h.cr ho
  have CB := Lib.hid (fun W (hW : BudAt W c base fi en fr vs R) => bs_own base 3 (vs o) (R o) x W (hW.own o ho) hs (by omega))
  clear h hs
  go_enter Try.func23, Try.ntmps23
  go_wp2_with fail
  refine (CB.out w HB.out).mono ?_
  rintro e w1 ⟨rfl, q, rfl⟩
  have hk : (R o).countP (fun z => decide (z < x)) ≤ (R o).length := List.countP_le_length
  obtain ⟨k, hke⟩ : ∃ k, (R o).countP (fun z => decide (z < x)) = k := ⟨_, rfl⟩
  obtain ⟨ct, hct⟩ : ∃ ct, (R o).contains x = ct := ⟨_, rfl⟩
  rw [hke] at hk ⊢
  rw [hct]
  have HK := Lib.hid hke
  clear hke hct CB c0
  have HB1 := Lib.hid (HB.out.drewN q)
  have HBW := Lib.hid (below_drewN (Below.refl w.heap.size w) q)
  generalize w.drewN q = w1 at *
  have c0 := HB1.out.cr ho
  have hoi : (o : Int) < 10 := by omega
  go_wp2_with fail
  have SK := Lib.hid (show ∀ w', w1.drew.grownBy w' (vs o).ownBlock → w'.cell? ⟨c, 2 + o, none⟩ = some (vs o) ∧ w'.frozen? ⟨c, 2 + o, none⟩ = false from fun w' hg => by
    have hb : Blk w' c 54 (bcells fi en vs fr) := HB1.out.blk.drew.grown hg (fun e => by
      have := ((HB1.out.own o ho).lt c e.symm).1
      have := HB1.out.lo
      omega)
    exact ⟨by rw [hb.cell, bcells_get ho], hb.frozen _⟩)
  refine beginZ (z := 15) (S := (fun w' => w'.cell? ⟨c, 2 + o, none⟩ = some (vs o) ∧ w'.frozen? ⟨c, 2 + o, none⟩ = false)) (by kernel_rfl) ?_ (fun hHeld => ?_)
  · exact SK.out _ (World.grownBy.refl _ _)
  have HBZ := Lib.hid (show BudAt w1.drew c base fi en fr vs R from HB1.out.drewN 1)
  have HBW2 := Lib.hid (show Below w.heap.size w w1.drew from HBW.out.drew)
  generalize w1.drew = w0 at *
  have SZ := Lib.hid (show w0.heap.size ≤ w0.heap.size from Nat.le_refl _)
  ((refine takeYZ 0 (by kernel_rfl) (v := ?_) rfl (by kernel_rfl) (by kernel_rfl) (by kernel_rfl) (fun _ _ _ h => h) (by rfl) (by assumption) ?_ ?_; rotate_left; · (intro w hSw; (try dsimp only at hSw); go_simp; (first | done | with_reducible rfl))))
  (try simp only [Act.put, List.setIfInBounds_toArray, List.set_cons_zero, List.set_cons_succ])
  ((refine takeYZ 1 (by kernel_rfl) (v := ?_) rfl (by kernel_rfl) (by kernel_rfl) (by kernel_rfl) (fun _ _ _ h => h) (by rfl) (by assumption) ?_ ?_; rotate_left; · (intro w hSw; (try dsimp only at hSw); go_simp; (first | done | with_reducible rfl))))
  (try simp only [Act.put, List.setIfInBounds_toArray, List.set_cons_zero, List.set_cons_succ])
  ((refine takeYZ 2 (by kernel_rfl) (v := ?_) rfl (by kernel_rfl) (by kernel_rfl) (by kernel_rfl) (fun _ _ _ h => h) (by rfl) (by assumption) ?_ ?_; rotate_left; · (intro w hSw; (try dsimp only at hSw); go_simp; (first | done | with_reducible rfl))))
  (try simp only [Act.put, List.setIfInBounds_toArray, List.set_cons_zero, List.set_cons_succ])
  ((refine takeYZ 3 (by kernel_rfl) (v := ?_) rfl (by kernel_rfl) (by kernel_rfl) (by kernel_rfl) (fun _ _ _ h => h) (by rfl) (by assumption) ?_ ?_; rotate_left; · (intro w hSw; (try dsimp only at hSw); go_simp; (first | done | with_reducible rfl))))
  (try simp only [Act.put, List.setIfInBounds_toArray, List.set_cons_zero, List.set_cons_succ])
  ((refine takeYZ 4 (by kernel_rfl) (v := ?_) rfl (by kernel_rfl) (by kernel_rfl) (by kernel_rfl) (fun _ _ _ h => h) (by rfl) (by assumption) ?_ ?_; rotate_left; · (intro w hSw; (try dsimp only at hSw); go_simp; (first | done | with_reducible rfl))))
  (try simp only [Act.put, List.setIfInBounds_toArray, List.set_cons_zero, List.set_cons_succ])
  ((refine takeYZ 5 (by kernel_rfl) (v := ?_) rfl (by kernel_rfl) (by kernel_rfl) (by kernel_rfl) (fun _ _ _ h => h) (by rfl) (by assumption) ?_ ?_; rotate_left; · (intro w hSw; (try dsimp only at hSw); go_simp; (first | done | with_reducible rfl))))
  (try simp only [Act.put, List.setIfInBounds_toArray, List.set_cons_zero, List.set_cons_succ])
  ((refine takeYZ 6 (by kernel_rfl) (v := ?_) rfl (by kernel_rfl) (by kernel_rfl) (by kernel_rfl) (fun _ _ _ h => h) (by rfl) (by assumption) ?_ ?_; rotate_left; · (intro w hSw; (try dsimp only at hSw); go_simp; (first | done | with_reducible rfl))))
  (try simp only [Act.put, List.setIfInBounds_toArray, List.set_cons_zero, List.set_cons_succ])
  ((refine takeYZ 7 (by kernel_rfl) (v := ?_) rfl (by kernel_rfl) (by kernel_rfl) (by kernel_rfl) (fun _ _ _ h => h) (by rfl) (by assumption) ?_ ?_; rotate_left; · (intro w hSw; (try dsimp only at hSw); go_simp; (first | done | with_reducible rfl))))
  (try simp only [Act.put, List.setIfInBounds_toArray, List.set_cons_zero, List.set_cons_succ])
  ((refine takeYZ 8 (by kernel_rfl) (v := ?_) rfl (by kernel_rfl) (by kernel_rfl) (by kernel_rfl) (fun _ _ _ h => h) (by rfl) (by assumption) ?_ ?_; rotate_left; · (intro w hSw; (try dsimp only at hSw); go_simp; (first | done | with_reducible rfl))))
  (try simp only [Act.put, List.setIfInBounds_toArray, List.set_cons_zero, List.set_cons_succ])
  ((refine takeYZ 9 (by kernel_rfl) (v := ?_) rfl (by kernel_rfl) (by kernel_rfl) (by kernel_rfl) (fun _ _ _ h => h) (by rfl) (by assumption) ?_ ?_; rotate_left; · (intro w hSw; (try dsimp only at hSw); go_simp; (first | done | with_reducible rfl))))
  (try simp only [Act.put, List.setIfInBounds_toArray, List.set_cons_zero, List.set_cons_succ])
  refine readyZ (rs := [10, 12]) (by kernel_rfl) (by simp) ?_
  refine consZ 10 rfl (by rfl) (fun K hK => ?_) (consZ 12 rfl (by rfl) (fun K hK => ?_) (nilZ))
  · go_simp
    (refine hK.out _ _ ?_ (fun hHeld => ?_))
    · exact SK.out _ (only_of_below ((Below.refl _ _).alloc (Nat.le_refl _) _) _)
    clear hK K
    have HC := Lib.hid (Blk.new w0 3 #[iv x])
    have HGA := Lib.hid (only_of_below ((Below.refl w0.heap.size w0).alloc (Nat.le_refl _) (.cells #[iv x] 3)) (vs o).ownBlock)
    have HBA := Lib.hid (HBZ.out.below ((Below.refl _ _).alloc (Nat.le_refl _) (.cells #[iv x] 3)))
    generalize hwn : w0.alloc (.cells #[iv x] 3) = wa at *
    clear hwn
    have HNE := Lib.hid (show (vs o).ownBlock ≠ some w0.heap.size from fun e => by have := ((HBZ.out.own o ho).lt _ e).2; omega)
    refine readyZ (rs := [11, 12]) (by kernel_rfl) (by simp) ?_
    refine consZ 11 rfl (by rfl) (fun K hK => ?_) (consZ 12 rfl (by rfl) (fun K hK => ?_) (nilZ))
    · go_simp
      (with_reducible refine (ins_own base (vs o) (R o) k w0.heap.size x wa (HBA.out.own o ho) hk (by omega) (Nat.le_trans hbase (Nat.le_trans HBW2.out.size HGA.out.size)) HC.out HNE.out).mono ?_)
      rintro e w2 ⟨v2, rfl, hown2, hg2, hf2⟩
      have HG2 := Lib.hid (grownBy_tr3 (World.grownBy.refl w0 _) HGA.out hg2)
      (refine hK.out _ _ ?_ (fun hHeld => ?_))
      · exact SK.out _ HG2.out
      clear hK K
      have HOW := Lib.hid hown2
      have HFR := Lib.hid (show v2.ownBlock = (vs o).ownBlock ∨ ∃ g, v2.ownBlock = some g ∧ w0.heap.size ≤ g from by
        rcases hf2 with h | h
        · exact .inl h
        · exact .inr ⟨_, h, HGA.out.size⟩)
      clear hown2 hg2 hf2
      refine stepZ 12 rfl (by kernel_rfl) (by rfl) (fun K hK => ?_)
      go_simp
      refine hK.out _ _ hHeld (fun hHeld => ?_)
      clear hK K
      refine stepZ 13 rfl (by kernel_rfl) (by rfl) (fun K hK => ?_)
      go_simp
      refine hK.out _ _ hHeld (fun hHeld => ?_)
      clear hK K
      ((refine takeYZ 14 (by kernel_rfl) (v := ?_) rfl (by kernel_rfl) (by kernel_rfl) (by kernel_rfl) (fun _ _ _ h => h) (by rfl) (by assumption) ?_ ?_; rotate_left; · (intro w hSw; (try dsimp only at hSw); go_simp; (first | done | with_reducible rfl))))
      (try simp only [Act.put, List.setIfInBounds_toArray, List.set_cons_zero, List.set_cons_succ])
      refine endZ rfl (by kernel_rfl) (by kernel_rfl) (by rfl) (fun K hK => ?_)
      obtain ⟨hq1, hq2⟩ := hHeld
      obtain ⟨Av, nv, cv, rfl⟩ := own_form HOW.out
      go_simp
      refine hK.out _ _ ?_
      clear hK K hq1 hq2
      have HF := Lib.hid (HBZ.out.put ho HG2.out (v := .slice Av nv cv) (xs := putL x (R o)) (by
        have h9 := HOW.out
        unfold putL
        rw [HK.out, show ((R o).take k ++ x :: (R o).drop k).length = (R o).length + 1 by simp; omega]
        exact h9) HFR.out)
      go_wp2
      go_end0
      exact ⟨rfl, _, HF.out.1, (only_fresh HBW2.out).trans HF.out.2, by
        rcases HFR.out with h | ⟨g, h, hg⟩
        · exact .inl h
        · exact .inr ⟨g, h, Nat.le_trans HBW2.out.size hg⟩⟩
    · go_simp
      refine hK.out _ _ hHeld (fun hHeld => ?_)
      clear hK K
      refine readyZ (rs := [11, 13]) (by kernel_rfl) (by simp) ?_
      refine consZ 11 rfl (by rfl) (fun K hK => ?_) (consZ 13 rfl (by rfl) (fun K hK => ?_) (nilZ))
      · go_simp
        (with_reducible refine (ins_own base (vs o) (R o) k w0.heap.size x wa (HBA.out.own o ho) hk (by omega) (Nat.le_trans hbase (Nat.le_trans HBW2.out.size HGA.out.size)) HC.out HNE.out).mono ?_)
        rintro e w2 ⟨v2, rfl, hown2, hg2, hf2⟩
        have HG2 := Lib.hid (grownBy_tr3 (World.grownBy.refl w0 _) HGA.out hg2)
        (refine hK.out _ _ ?_ (fun hHeld => ?_))
        · exact SK.out _ HG2.out
        clear hK K
        have HOW := Lib.hid hown2
        have HFR := Lib.hid (show v2.ownBlock = (vs o).ownBlock ∨ ∃ g, v2.ownBlock = some g ∧ w0.heap.size ≤ g from by
          rcases hf2 with h | h
          · exact .inl h
          · exact .inr ⟨_, h, HGA.out.size⟩)
        clear hown2 hg2 hf2
        refine stepZ 13 rfl (by kernel_rfl) (by rfl) (fun K hK => ?_)
        go_simp
        refine hK.out _ _ hHeld (fun hHeld => ?_)
        clear hK K
        ((refine takeYZ 14 (by kernel_rfl) (v := ?_) rfl (by kernel_rfl) (by kernel_rfl) (by kernel_rfl) (fun _ _ _ h => h) (by rfl) (by assumption) ?_ ?_; rotate_left; · (intro w hSw; (try dsimp only at hSw); go_simp; (first | done | with_reducible rfl))))
        (try simp only [Act.put, List.setIfInBounds_toArray, List.set_cons_zero, List.set_cons_succ])
        refine endZ rfl (by kernel_rfl) (by kernel_rfl) (by rfl) (fun K hK => ?_)
        obtain ⟨hq1, hq2⟩ := hHeld
        obtain ⟨Av, nv, cv, rfl⟩ := own_form HOW.out
        go_simp
        refine hK.out _ _ ?_
        clear hK K hq1 hq2
        have HF := Lib.hid (HBZ.out.put ho HG2.out (v := .slice Av nv cv) (xs := putL x (R o)) (by
          have h9 := HOW.out
          unfold putL
          rw [HK.out, show ((R o).take k ++ x :: (R o).drop k).length = (R o).length + 1 by simp; omega]
          exact h9) HFR.out)
        go_wp2
        go_end0
        exact ⟨rfl, _, HF.out.1, (only_fresh HBW2.out).trans HF.out.2, by
          rcases HFR.out with h | ⟨g, h, hg⟩
          · exact .inl h
          · exact .inr ⟨g, h, Nat.le_trans HBW2.out.size hg⟩⟩
      · go_simp
        refine hK.out _ _ hHeld (fun hHeld => ?_)
        clear hK K
        refine stepZ 11 rfl (by kernel_rfl) (by rfl) (fun K hK => ?_)
        go_simp
        (with_reducible refine (ins_own base (vs o) (R o) k w0.heap.size x wa (HBA.out.own o ho) hk (by omega) (Nat.le_trans hbase (Nat.le_trans HBW2.out.size HGA.out.size)) HC.out HNE.out).mono ?_)
        rintro e w2 ⟨v2, rfl, hown2, hg2, hf2⟩
        have HG2 := Lib.hid (grownBy_tr3 (World.grownBy.refl w0 _) HGA.out hg2)
        (refine hK.out _ _ ?_ (fun hHeld => ?_))
        · exact SK.out _ HG2.out
        clear hK K
        have HOW := Lib.hid hown2
        have HFR := Lib.hid (show v2.ownBlock = (vs o).ownBlock ∨ ∃ g, v2.ownBlock = some g ∧ w0.heap.size ≤ g from by
          rcases hf2 with h | h
          · exact .inl h
          · exact .inr ⟨_, h, HGA.out.size⟩)
        clear hown2 hg2 hf2
        ((refine takeYZ 14 (by kernel_rfl) (v := ?_) rfl (by kernel_rfl) (by kernel_rfl) (by kernel_rfl) (fun _ _ _ h => h) (by rfl) (by assumption) ?_ ?_; rotate_left; · (intro w hSw; (try dsimp only at hSw); go_simp; (first | done | with_reducible rfl))))
        (try simp only [Act.put, List.setIfInBounds_toArray, List.set_cons_zero, List.set_cons_succ])
        refine endZ rfl (by kernel_rfl) (by kernel_rfl) (by rfl) (fun K hK => ?_)
        obtain ⟨hq1, hq2⟩ := hHeld
        obtain ⟨Av, nv, cv, rfl⟩ := own_form HOW.out
        go_simp
        refine hK.out _ _ ?_
        clear hK K hq1 hq2
        have HF := Lib.hid (HBZ.out.put ho HG2.out (v := .slice Av nv cv) (xs := putL x (R o)) (by
          have h9 := HOW.out
          unfold putL
          rw [HK.out, show ((R o).take k ++ x :: (R o).drop k).length = (R o).length + 1 by simp; omega]
          exact h9) HFR.out)
        go_wp2
        go_end0
        exact ⟨rfl, _, HF.out.1, (only_fresh HBW2.out).trans HF.out.2, by
          rcases HFR.out with h | ⟨g, h, hg⟩
          · exact .inl h
          · exact .inr ⟨g, h, Nat.le_trans HBW2.out.size hg⟩⟩
  · go_simp
    refine hK.out _ _ hHeld (fun hHeld => ?_)
    clear hK K
    refine readyZ (rs := [10, 13]) (by kernel_rfl) (by simp) ?_
    refine consZ 10 rfl (by rfl) (fun K hK => ?_) (consZ 13 rfl (by rfl) (fun K hK => ?_) (nilZ))
    · go_simp
      (refine hK.out _ _ ?_ (fun hHeld => ?_))
      · exact SK.out _ (only_of_below ((Below.refl _ _).alloc (Nat.le_refl _) _) _)
      clear hK K
      have HC := Lib.hid (Blk.new w0 3 #[iv x])
      have HGA := Lib.hid (only_of_below ((Below.refl w0.heap.size w0).alloc (Nat.le_refl _) (.cells #[iv x] 3)) (vs o).ownBlock)
      have HBA := Lib.hid (HBZ.out.below ((Below.refl _ _).alloc (Nat.le_refl _) (.cells #[iv x] 3)))
      generalize hwn : w0.alloc (.cells #[iv x] 3) = wa at *
      clear hwn
      have HNE := Lib.hid (show (vs o).ownBlock ≠ some w0.heap.size from fun e => by have := ((HBZ.out.own o ho).lt _ e).2; omega)
      refine readyZ (rs := [11, 13]) (by kernel_rfl) (by simp) ?_
      refine consZ 11 rfl (by rfl) (fun K hK => ?_) (consZ 13 rfl (by rfl) (fun K hK => ?_) (nilZ))
      · go_simp
        (with_reducible refine (ins_own base (vs o) (R o) k w0.heap.size x wa (HBA.out.own o ho) hk (by omega) (Nat.le_trans hbase (Nat.le_trans HBW2.out.size HGA.out.size)) HC.out HNE.out).mono ?_)
        rintro e w2 ⟨v2, rfl, hown2, hg2, hf2⟩
        have HG2 := Lib.hid (grownBy_tr3 (World.grownBy.refl w0 _) HGA.out hg2)
        (refine hK.out _ _ ?_ (fun hHeld => ?_))
        · exact SK.out _ HG2.out
        clear hK K
        have HOW := Lib.hid hown2
        have HFR := Lib.hid (show v2.ownBlock = (vs o).ownBlock ∨ ∃ g, v2.ownBlock = some g ∧ w0.heap.size ≤ g from by
          rcases hf2 with h | h
          · exact .inl h
          · exact .inr ⟨_, h, HGA.out.size⟩)
        clear hown2 hg2 hf2
        refine stepZ 13 rfl (by kernel_rfl) (by rfl) (fun K hK => ?_)
        go_simp
        refine hK.out _ _ hHeld (fun hHeld => ?_)
        clear hK K
        ((refine takeYZ 14 (by kernel_rfl) (v := ?_) rfl (by kernel_rfl) (by kernel_rfl) (by kernel_rfl) (fun _ _ _ h => h) (by rfl) (by assumption) ?_ ?_; rotate_left; · (intro w hSw; (try dsimp only at hSw); go_simp; (first | done | with_reducible rfl))))
        (try simp only [Act.put, List.setIfInBounds_toArray, List.set_cons_zero, List.set_cons_succ])
        refine endZ rfl (by kernel_rfl) (by kernel_rfl) (by rfl) (fun K hK => ?_)
        obtain ⟨hq1, hq2⟩ := hHeld
        obtain ⟨Av, nv, cv, rfl⟩ := own_form HOW.out
        go_simp
        refine hK.out _ _ ?_
        clear hK K hq1 hq2
        have HF := Lib.hid (HBZ.out.put ho HG2.out (v := .slice Av nv cv) (xs := putL x (R o)) (by
          have h9 := HOW.out
          unfold putL
          rw [HK.out, show ((R o).take k ++ x :: (R o).drop k).length = (R o).length + 1 by simp; omega]
          exact h9) HFR.out)
        go_wp2
        go_end0
        exact ⟨rfl, _, HF.out.1, (only_fresh HBW2.out).trans HF.out.2, by
          rcases HFR.out with h | ⟨g, h, hg⟩
          · exact .inl h
          · exact .inr ⟨g, h, Nat.le_trans HBW2.out.size hg⟩⟩
      · go_simp
        refine hK.out _ _ hHeld (fun hHeld => ?_)
        clear hK K
        refine stepZ 11 rfl (by kernel_rfl) (by rfl) (fun K hK => ?_)
        go_simp
        (with_reducible refine (ins_own base (vs o) (R o) k w0.heap.size x wa (HBA.out.own o ho) hk (by omega) (Nat.le_trans hbase (Nat.le_trans HBW2.out.size HGA.out.size)) HC.out HNE.out).mono ?_)
        rintro e w2 ⟨v2, rfl, hown2, hg2, hf2⟩
        have HG2 := Lib.hid (grownBy_tr3 (World.grownBy.refl w0 _) HGA.out hg2)
        (refine hK.out _ _ ?_ (fun hHeld => ?_))
        · exact SK.out _ HG2.out
        clear hK K
        have HOW := Lib.hid hown2
        have HFR := Lib.hid (show v2.ownBlock = (vs o).ownBlock ∨ ∃ g, v2.ownBlock = some g ∧ w0.heap.size ≤ g from by
          rcases hf2 with h | h
          · exact .inl h
          · exact .inr ⟨_, h, HGA.out.size⟩)
        clear hown2 hg2 hf2
        ((refine takeYZ 14 (by kernel_rfl) (v := ?_) rfl (by kernel_rfl) (by kernel_rfl) (by kernel_rfl) (fun _ _ _ h => h) (by rfl) (by assumption) ?_ ?_; rotate_left; · (intro w hSw; (try dsimp only at hSw); go_simp; (first | done | with_reducible rfl))))
        (try simp only [Act.put, List.setIfInBounds_toArray, List.set_cons_zero, List.set_cons_succ])
        refine endZ rfl (by kernel_rfl) (by kernel_rfl) (by rfl) (fun K hK => ?_)
        obtain ⟨hq1, hq2⟩ := hHeld
        obtain ⟨Av, nv, cv, rfl⟩ := own_form HOW.out
        go_simp
        refine hK.out _ _ ?_
        clear hK K hq1 hq2
        have HF := Lib.hid (HBZ.out.put ho HG2.out (v := .slice Av nv cv) (xs := putL x (R o)) (by
          have h9 := HOW.out
          unfold putL
          rw [HK.out, show ((R o).take k ++ x :: (R o).drop k).length = (R o).length + 1 by simp; omega]
          exact h9) HFR.out)
        go_wp2
        go_end0
        exact ⟨rfl, _, HF.out.1, (only_fresh HBW2.out).trans HF.out.2, by
          rcases HFR.out with h | ⟨g, h, hg⟩
          · exact .inl h
          · exact .inr ⟨g, h, Nat.le_trans HBW2.out.size hg⟩⟩
    · go_simp
      refine hK.out _ _ hHeld (fun hHeld => ?_)
      clear hK K
      refine stepZ 10 rfl (by kernel_rfl) (by rfl) (fun K hK => ?_)
      go_simp
      (refine hK.out _ _ ?_ (fun hHeld => ?_))
      · exact SK.out _ (only_of_below ((Below.refl _ _).alloc (Nat.le_refl _) _) _)
      clear hK K
      have HC := Lib.hid (Blk.new w0 3 #[iv x])
      have HGA := Lib.hid (only_of_below ((Below.refl w0.heap.size w0).alloc (Nat.le_refl _) (.cells #[iv x] 3)) (vs o).ownBlock)
      have HBA := Lib.hid (HBZ.out.below ((Below.refl _ _).alloc (Nat.le_refl _) (.cells #[iv x] 3)))
      generalize hwn : w0.alloc (.cells #[iv x] 3) = wa at *
      clear hwn
      have HNE := Lib.hid (show (vs o).ownBlock ≠ some w0.heap.size from fun e => by have := ((HBZ.out.own o ho).lt _ e).2; omega)
      refine stepZ 11 rfl (by kernel_rfl) (by rfl) (fun K hK => ?_)
      go_simp
      (with_reducible refine (ins_own base (vs o) (R o) k w0.heap.size x wa (HBA.out.own o ho) hk (by omega) (Nat.le_trans hbase (Nat.le_trans HBW2.out.size HGA.out.size)) HC.out HNE.out).mono ?_)
      rintro e w2 ⟨v2, rfl, hown2, hg2, hf2⟩
      have HG2 := Lib.hid (grownBy_tr3 (World.grownBy.refl w0 _) HGA.out hg2)
      (refine hK.out _ _ ?_ (fun hHeld => ?_))
      · exact SK.out _ HG2.out
      clear hK K
      have HOW := Lib.hid hown2
      have HFR := Lib.hid (show v2.ownBlock = (vs o).ownBlock ∨ ∃ g, v2.ownBlock = some g ∧ w0.heap.size ≤ g from by
        rcases hf2 with h | h
        · exact .inl h
        · exact .inr ⟨_, h, HGA.out.size⟩)
      clear hown2 hg2 hf2
      ((refine takeYZ 14 (by kernel_rfl) (v := ?_) rfl (by kernel_rfl) (by kernel_rfl) (by kernel_rfl) (fun _ _ _ h => h) (by rfl) (by assumption) ?_ ?_; rotate_left; · (intro w hSw; (try dsimp only at hSw); go_simp; (first | done | with_reducible rfl))))
      (try simp only [Act.put, List.setIfInBounds_toArray, List.set_cons_zero, List.set_cons_succ])
      refine endZ rfl (by kernel_rfl) (by kernel_rfl) (by rfl) (fun K hK => ?_)
      obtain ⟨hq1, hq2⟩ := hHeld
      obtain ⟨Av, nv, cv, rfl⟩ := own_form HOW.out
      go_simp
      refine hK.out _ _ ?_
      clear hK K hq1 hq2
      have HF := Lib.hid (HBZ.out.put ho HG2.out (v := .slice Av nv cv) (xs := putL x (R o)) (by
        have h9 := HOW.out
        unfold putL
        rw [HK.out, show ((R o).take k ++ x :: (R o).drop k).length = (R o).length + 1 by simp; omega]
        exact h9) HFR.out)
      go_wp2
      go_end0
      exact ⟨rfl, _, HF.out.1, (only_fresh HBW2.out).trans HF.out.2, by
        rcases HFR.out with h | ⟨g, h, hg⟩
        · exact .inl h
        · exact .inr ⟨g, h, Nat.le_trans HBW2.out.size hg⟩⟩
end Go.Proofs.Ytmmjkebhcihjlaa
