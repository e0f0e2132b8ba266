import Derived.Test.YtjofegjiakjjhaaDoorMSld0
import Derived.Test.YtjofegjiakjjhaaDoorMSsh
/- Script: two rows of steps of the call's own, side by side (beneath ScriptReads). -/
namespace Go.Proofs.YtjofegjiakjjhaaDoor
open Go.RowKit Go.Lib Mf

theorem row_kept {w w4 : World} {B k n : Nat} {t : TypeId} {v : Value} {xs : List Value} {u : Option Nat} (h : w.ownsRow B t k v n xs) (hg : w.grownBy w4 u) (hne : ∀ g, v.ownBlock = some g → u ≠ some g) : w4.ownsRow B t k v n xs := by
  refine h.kept hg ?_
  cases e : v.ownBlock with
  | none => exact .inl rfl
  | some g => exact .inr (fun e2 => hne g e e2.symm)
/-- The steps L with Fails of their own in v7; n steps in v8, whose Fails are others'. -/
structure Two (w : World) (B : Nat) (L : List (St × Value)) (v7 : Value) (n : Nat) (xs : List Value) (v8 : Value) : Prop where
  ls : LsR w B L v7
  al : w.ownsRow B 25 12 v8 n xs
  ap : ∀ g, v8.ownBlock = some g → v7.ownBlock ≠ some g
  apl : ∀ p ∈ L, ∀ g, v8.ownBlock = some g → p.2.ownBlock ≠ some g
theorem Two.below {w w' : World} {B n : Nat} {L : List (St × Value)} {v7 v8 : Value} {xs : List Value} (h : Two w B L v7 n xs v8) (hb : Below w.heap.size w w') : Two w' B L v7 n xs v8 := ⟨h.ls.below hb, own_below h.al hb, h.ap, h.apl⟩
/-- Fails of a step that comes. -/
structure NewF (w : World) (B : Nat) (v7 v8 F : Value) (fs : List Bool) : Prop where
  row : BRow w B F fs
  n7 : ∀ g, F.ownBlock = some g → v7.ownBlock ≠ some g
  n8 : ∀ g, F.ownBlock = some g → v8.ownBlock ≠ some g
theorem NewF.below {w w' : World} {B : Nat} {v7 v8 F : Value} {fs : List Bool} (h : NewF w B v7 v8 F fs) (hb : Below w.heap.size w w') : NewF w' B v7 v8 F fs := ⟨own_below h.row hb, h.n7, h.n8⟩
theorem NewF.of {w w' : World} {B n : Nat} {L : List (St × Value)} {v7 v8 F : Value} {xs : List Value} {fs : List Bool} (h : Two w B L v7 n xs v8) (hn : BRow w' w.heap.size F fs) (hB : B ≤ w.heap.size) : NewF w' B v7 v8 F fs :=
  ⟨ownsRow_mono hn hB, fun g hg e => by have := (hn.lt g hg).1; have := (h.ls.row.lt g e).2; omega, fun g hg e => by have := (hn.lt g hg).1; have := (h.al.lt g e).2; omega⟩
/-- The block of a slice that was built. -/
structure NewB (w : World) (g : Nat) (v7 v8 : Value) (cs : Array Value) : Prop where
  blk : Blk w g 25 cs
  n7 : v7.ownBlock ≠ some g
  n8 : v8.ownBlock ≠ some g
theorem NewB.of {w : World} {B n : Nat} {L : List (St × Value)} {v7 v8 : Value} {xs : List Value} (h : Two w B L v7 n xs v8) (cs : Array Value) : NewB (w.alloc (.cells cs 25)) w.heap.size v7 v8 cs :=
  ⟨Blk.new _ _ _, fun e => by have := (h.ls.row.lt _ e).2; omega, fun e => by have := (h.al.lt _ e).2; omega⟩
theorem NewB.below {w w' : World} {g : Nat} {v7 v8 : Value} {cs : Array Value} (h : NewB w g v7 v8 cs) (hb : Below w.heap.size w w') : NewB w' g v7 v8 cs := ⟨h.blk.below hb h.blk.lt, h.n7, h.n8⟩
theorem NewB.grow7 {w w4 : World} {g : Nat} {v7 v7' v8 : Value} {cs : Array Value} (h : NewB w g v7 v8 cs) (hg : w.grownBy w4 v7.ownBlock) (hat : v7'.ownBlock = v7.ownBlock ∨ v7'.ownBlock = some w.heap.size) : NewB w4 g v7' v8 cs := by
  refine ⟨h.blk.grown hg (fun e => h.n7 e.symm), ?_, h.n8⟩
  rcases hat with e | e
  · rw [e]; exact h.n7
  · rw [e]; intro e; have := Option.some.inj e; have := h.blk.lt; omega
theorem NewB.grow8 {w w4 : World} {g : Nat} {v7 v8' v8 : Value} {cs : Array Value} (h : NewB w g v7 v8 cs) (hg : w.grownBy w4 v8.ownBlock) (hat : v8'.ownBlock = v8.ownBlock ∨ v8'.ownBlock = some w.heap.size) : NewB w4 g v7 v8' cs := by
  refine ⟨h.blk.grown hg (fun e => h.n8 e.symm), h.n7, ?_⟩
  rcases hat with e | e
  · rw [e]; exact h.n8
  · rw [e]; intro e; have := Option.some.inj e; have := h.blk.lt; omega
theorem NewF.grow8 {w w4 : World} {B : Nat} {v7 v8 v8' F : Value} {fs : List Bool} (h : NewF w B v7 v8 F fs) (hg : w.grownBy w4 v8.ownBlock) (hat : v8'.ownBlock = v8.ownBlock ∨ v8'.ownBlock = some w.heap.size) : NewF w4 B v7 v8' F fs := by
  refine ⟨row_kept h.row hg h.n8, h.n7, fun g hg9 => ?_⟩
  rcases hat with e | e
  · rw [e]; exact h.n8 g hg9
  · rw [e]; intro e; have := Option.some.inj e; have := (h.row.lt g hg9).2; omega
theorem Two.grow8 {w w4 : World} {B n : Nat} {L : List (St × Value)} {v7 v8 v8' : Value} {xs ys : List Value} {m : Nat} (h : Two w B L v7 n xs v8) (hrow : w4.ownsRow B 25 12 v8' m ys) (hg : w.grownBy w4 v8.ownBlock) (hat : v8'.ownBlock = v8.ownBlock ∨ v8'.ownBlock = some w.heap.size) : Two w4 B L v7 m ys v8' := by
  refine ⟨⟨row_kept h.ls.row hg (fun g e1 e2 => h.ap g e2 e1), fun p hp => row_kept (h.ls.own p hp) hg (fun g e1 e2 => h.apl p hp g e2 e1), h.ls.ne, h.ls.ok⟩, hrow, fun g hg9 => ?_, fun p hp g hg9 => ?_⟩
  · rcases hat with e | e
    · exact h.ap g (e ▸ hg9)
    · intro e2; have := Option.some.inj (e.symm.trans hg9); have := (h.ls.row.lt g e2).2; omega
  · rcases hat with e | e
    · exact h.apl p hp g (e ▸ hg9)
    · intro e2; have := Option.some.inj (e.symm.trans hg9); have := ((h.ls.own p hp).lt g e2).2; omega
theorem Two.grow7 {w w4 : World} {B n : Nat} {L : List (St × Value)} {v7 v7' v8 F : Value} {xs : List Value} {s : St} (h : Two w B L v7 n xs v8) (hF : NewF w B v7 v8 F s.fails) (hok : s.ok ∧ s.fails.length ≤ 100000) (hrow : w4.ownsRow B 25 12 v7' (L.length + 1) (L.flatMap stL ++ stL (s, F))) (hg : w.grownBy w4 v7.ownBlock) (hat : v7'.ownBlock = v7.ownBlock ∨ v7'.ownBlock = some w.heap.size) : Two w4 B (L ++ [(s, F)]) v7' n xs v8 := by
  refine ⟨⟨by rw [List.length_append, List.flatMap_append]; simpa using hrow, fun p hp => ?_, fun p hp g hg9 => ?_, fun p hp => ?_⟩, row_kept h.al hg h.ap, fun g hg9 => ?_, fun p hp g hg9 => ?_⟩
  · rcases List.mem_append.1 hp with hp | hp
    · exact row_kept (h.ls.own p hp) hg (h.ls.ne p hp)
    · rw [List.mem_singleton] at hp; subst hp; exact row_kept hF.row hg hF.n7
  · rcases List.mem_append.1 hp with hp | hp
    · rcases hat with e | e
      · rw [e]; exact h.ls.ne p hp g hg9
      · rw [e]; intro e2; have := Option.some.inj e2; have := ((h.ls.own p hp).lt g hg9).2; omega
    · rw [List.mem_singleton] at hp; subst hp
      rcases hat with e | e
      · rw [e]; exact hF.n7 g hg9
      · rw [e]; intro e2; have := Option.some.inj e2; have := (hF.row.lt g hg9).2; omega
  · rcases List.mem_append.1 hp with hp | hp
    · exact h.ls.ok p hp
    · rw [List.mem_singleton] at hp; subst hp; exact hok
  · rcases hat with e | e
    · rw [e]; exact h.ap g hg9
    · rw [e]; intro e2; have := Option.some.inj e2; have := (h.al.lt g hg9).2; omega
  · rcases List.mem_append.1 hp with hp | hp
    · exact h.apl p hp g hg9
    · rw [List.mem_singleton] at hp; subst hp; intro e; exact hF.n8 g e hg9
theorem readS_len (t : Bs) : (ReadS t).1.length ≤ 4096 := by
  unfold ReadS
  split
  · exact Nat.zero_le _
  · split
    · exact Nat.zero_le _
    · split
      · exact Nat.zero_le _
      · dsimp only; omega
theorem LsR.faL {w : World} {B : Nat} {l : List (St × Value)} {v : Value} (h : LsR w B l v) : ∀ p ∈ l, p.1.ok ∧ p.1.fails.length ≤ 1000000 := fun p hp => ⟨(h.ok p hp).1, by have := (h.ok p hp).2; omega⟩
/-- What came in: each step fits, its Fails are sliced well. -/
def FitL (l : List (St × Value)) : Prop := ∀ p ∈ l, p.1.ok ∧ ∃ FA Fc, p.2 = .slice FA p.1.fails.length Fc ∧ p.1.fails.length ≤ Fc ∧ Fc ≤ maxLen
theorem tmodN (a : Int) (m : Nat) (hm : 0 < m) : ∃ i : Nat, Int.tmod (Int.tmod a m + m) m = (i : Int) ∧ i < m ∧ -(m : Int) < Int.tmod a m ∧ Int.tmod a m < m := by
  have h1 := tmod_bd a m (by omega)
  have h2 := Int.tmod_nonneg (m : Int) (show 0 ≤ Int.tmod a m + m by omega)
  have h3 := tmod_bd (Int.tmod a m + m) m (by omega)
  exact ⟨(Int.tmod (Int.tmod a m + m) m).toNat, by omega, by omega, h1.1, h1.2⟩
end Go.Proofs.YtjofegjiakjjhaaDoor
