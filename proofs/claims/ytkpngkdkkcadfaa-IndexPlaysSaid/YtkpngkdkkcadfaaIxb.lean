/- Package index: an index in memory; New, Has, Count. -/
import Derived.Test.YtkpngkdkkcadfaaIxa
namespace Go.Proofs.Ytkpngkdkkcadfaa
open Go.RowKit Mk

/-- A frame's key. -/
def ki (k : Int) (h : (Lit.int .i64 k).wf = true) : Ki := ⟨k, h⟩
/-- Which frames have a sum. -/
def Grp (S : Ki → Option Cx) (z : Cx) (l : List Int) : Prop := l.Pairwise (· < ·) ∧ ∀ x, x ∈ l ↔ ∃ h, S ⟨x, h⟩ = some z
structure Ix (w : World) (W c cm ms mb : Nat) (S : Ki → Option Cx) (BF : Cx → Option Value) : Prop where
  blk : Blk w c 74 #[.pointer (some ⟨cm, 0, none⟩), .map (some ms), .map (some mb)]
  sm : ∃ N, KMap Try.prog 3 kiK w ms N (fun k => (S k).map cxV)
  bm : ∃ N, KMap Try.prog 53 cxK w mb N BF
  row : ∀ z v, BF z = some v → ∃ l : List Int, l ≠ [] ∧ Grp S z l ∧ w.ownsRow W 3 1 v l.length (l.map iv)
  non : ∀ z, BF z = none → ∀ k, S k ≠ some z
  inj : ∀ z z' v v' g, BF z = some v → BF z' = some v' → v.ownBlock = some g → v'.ownBlock = some g → z = z'
  ap : ∀ z v, BF z = some v → v.ownBlock ≠ some c ∧ v.ownBlock ≠ some ms ∧ v.ownBlock ≠ some mb
  lo : W ≤ c ∧ W ≤ ms ∧ W ≤ mb
  df : c ≠ ms ∧ c ≠ mb ∧ ms ≠ mb
  dom : ∀ k z, S k = some z → 0 ≤ k.1 ∧ k.1 < 1000
def IxB (c ms mb : Nat) (BF : Cx → Option Value) : Nat → Prop := fun g => g = c ∨ g = ms ∨ g = mb ∨ ∃ z v, BF z = some v ∧ v.ownBlock = some g
def Xm (w : World) (W c cm : Nat) (S : Ki → Option Cx) (B : Nat → Prop) : Prop := ∃ ms mb BF, Ix w W c cm ms mb S BF ∧ B = IxB c ms mb BF
def XmTo (w w' : World) (W c cm : Nat) (S' : Ki → Option Cx) (B : Nat → Prop) : Prop := ∃ B', Xm w' W c cm S' B' ∧ Only B w w' ∧ ∀ g, B' g → B g ∨ w.heap.size ≤ g
section
variable {w w' : World} {W c cm ms mb : Nat} {S S' : Ki → Option Cx} {BF : Cx → Option Value} {B : Nat → Prop}
theorem Ix.below (h : Ix w W c cm ms mb S BF) (hb : Below w.heap.size w w') : Ix w' W c cm ms mb S BF := by
  obtain ⟨N, hN⟩ := h.sm
  obtain ⟨M, hM⟩ := h.bm
  exact ⟨h.blk.below hb h.blk.lt, ⟨N, hN.below hb hN.lt⟩, ⟨M, hM.below hb hM.lt⟩, fun z v hz => by
    obtain ⟨l, h1, h2, h3⟩ := h.row z v hz
    exact ⟨l, h1, h2, own_below h3 hb⟩, h.non, h.inj, h.ap, h.lo, h.df, h.dom⟩
theorem Ix.apart {T : Nat → Prop} (h : Ix w W c cm ms mb S BF) (ho : Only T w w') (hT : ∀ g, IxB c ms mb BF g → ¬ T g) : Ix w' W c cm ms mb S BF := by
  obtain ⟨N, hN⟩ := h.sm
  obtain ⟨M, hM⟩ := h.bm
  exact ⟨h.blk.only ho (hT _ (.inl rfl)), ⟨N, hN.only ho (hT _ (.inr (.inl rfl)))⟩, ⟨M, hM.only ho (hT _ (.inr (.inr (.inl rfl))))⟩, fun z v hz => by
    obtain ⟨l, h1, h2, h3⟩ := h.row z v hz
    exact ⟨l, h1, h2, own_keep h3 ho fun g hg => hT g (.inr (.inr (.inr ⟨z, v, hz, hg⟩)))⟩, h.non, h.inj, h.ap, h.lo, h.df, h.dom⟩
theorem Xm.below (h : Xm w W c cm S B) (hb : Below w.heap.size w w') : Xm w' W c cm S B := by
  obtain ⟨ms, mb, BF, h, rfl⟩ := h; exact ⟨ms, mb, BF, h.below hb, rfl⟩
theorem Xm.apart {T : Nat → Prop} (h : Xm w W c cm S B) (ho : Only T w w') (hT : ∀ g, B g → ¬ T g) : Xm w' W c cm S B := by
  obtain ⟨ms, mb, BF, h, rfl⟩ := h; exact ⟨ms, mb, BF, h.apart ho hT, rfl⟩
theorem Xm.lt (h : Xm w W c cm S B) {g : Nat} (hg : B g) : W ≤ g ∧ g < w.heap.size := by
  obtain ⟨ms, mb, BF, h, rfl⟩ := h
  obtain ⟨N, hN⟩ := h.sm
  obtain ⟨M, hM⟩ := h.bm
  rcases hg with rfl | rfl | rfl | ⟨z, v, hz, hg⟩
  · exact ⟨h.lo.1, h.blk.lt⟩
  · exact ⟨h.lo.2.1, hN.lt⟩
  · exact ⟨h.lo.2.2, hM.lt⟩
  · obtain ⟨l, _, _, h3⟩ := h.row z v hz
    exact h3.lt g hg
theorem XmTo.bel {w0 : World} (h : XmTo w w' W c cm S' B) (hb : Below w0.heap.size w0 w) (h0 : Xm w W c cm S B) (hW : w0.heap.size ≤ W) : Below w0.heap.size w0 w' := by
  obtain ⟨B', _, h2, _⟩ := h
  exact hb.trans (h2.to_below (fun k hk => by have := (h0.lt hk).1; omega) hb.size)
theorem zeroC (w : World) : (zeroValue 53).run Try.prog w = .ok (.complex .f64 0 0) w := by kernel_rfl
theorem zeroL (w : World) : (zeroValue 48).run Try.prog w = .ok (.slice none 0 0) w := by kernel_rfl
theorem xnone (w : World) : Calls Try.prog 25 #[.pointer none] w fun e w' => e = .returned (.tuple #[.pointer none, .int .i64 1]) ∧ w = w' := by
  go_enter Try.func25, Try.ntmps25
  go_wp2
  go_ret2
  exact ⟨rfl, rfl⟩
theorem xnew (cm : Nat) (w : World) : Calls Try.prog 25 #[.pointer (some ⟨cm, 0, none⟩)] w fun e w' => e = .returned (.tuple #[.pointer (some ⟨w.heap.size + 2, 0, none⟩), .int .i64 0]) ∧ (∃ B, Xm w' w.heap.size (w.heap.size + 2) cm (fun _ => none) B) ∧ Below w.heap.size w w' := by
  have hmm := @run_makeMap Try.prog
  go_enter Try.func25, Try.ntmps25
  go_wp2
  go_ret2
  refine ⟨rfl, ⟨_, w.heap.size, w.heap.size + 1, fun _ => none, ⟨?_, ⟨0, ((KMap.new w _ _ kiK).alloc _).alloc _⟩, ⟨0, ?_⟩, fun z v h => (by cases h), fun _ _ _ h => (by cases h), fun z z' v v' g h => (by cases h), fun z v h => (by cases h), ⟨by omega, Nat.le_refl _, by omega⟩, ⟨by omega, by omega, by omega⟩, fun k z h => (by cases h)⟩, rfl⟩, (((Below.refl _ _).alloc (Nat.le_refl _) _).alloc (by simp) _).alloc (by simp; omega) _⟩
  · have := Blk.new ((w.alloc (.map #[] 0)).alloc (.map #[] 0)) 74 #[.pointer (some ⟨cm, 0, none⟩), .map (some w.heap.size), .map (some (w.heap.size + 1))]
    simpa using this
  · have := (KMap.new (w.alloc (.map #[] 0)) Try.prog 53 cxK).alloc (.cells #[.pointer (some ⟨cm, 0, none⟩), .map (some w.heap.size), .map (some (w.heap.size + 1))] 74)
    simpa using this
set_option maxRecDepth 100000 in
set_option maxHeartbeats 2000000 in
theorem xhas (h : Ix w W c cm ms mb S BF) (k : Int) (hk : (Lit.int .i64 k).wf = true) : Calls Try.prog 22 #[.pointer (some ⟨c, 0, none⟩), .int .i64 k] w fun e w' => e = .returned (.bool (S ⟨k, hk⟩).isSome) ∧ w = w' := by
  obtain ⟨N, hN⟩ := h.sm
  have c1 := (h.blk.cell 1).trans rfl
  have hlk : (Instr.lookup 71 (.map (some ms)) (.int .i64 k) true).run Try.prog w = _ := hN.look true (t := 71) Try.underlying71 (zeroC w) ⟨k, hk⟩
  clear h hN
  cases hs : S ⟨k, hk⟩ with
  | none =>
    replace hlk : (Instr.lookup 71 (.map (some ms)) (.int .i64 k) true).run Try.prog w = .ok (.tuple #[.complex .f64 0 0, .bool false]) w := by rw [hlk, hs]; rfl
    clear hs
    go_enter Try.func22, Try.ntmps22
    go_wp2
    go_ret
    exact ⟨rfl, rfl⟩
  | some z =>
    replace hlk : (Instr.lookup 71 (.map (some ms)) (.int .i64 k) true).run Try.prog w = .ok (.tuple #[cxV z, .bool true]) w := by rw [hlk, hs]; rfl
    clear hs
    generalize cxV z = zv at *
    go_enter Try.func22, Try.ntmps22
    go_wp2
    go_ret
    exact ⟨rfl, rfl⟩
theorem xcount (h : Ix w W c cm ms mb S BF) : Calls Try.prog 18 #[.pointer (some ⟨c, 0, none⟩)] w fun e w' => ∃ ks : List Ki, e = .returned (.int .i64 (ks.length : Nat)) ∧ ks.Pairwise (· ≠ ·) ∧ (∀ k, k ∈ ks ↔ (S k).isSome = true) ∧ w = w' := by
  obtain ⟨N, hN⟩ := h.sm
  have c1 := (h.blk.cell 1).trans rfl
  obtain ⟨ks, h1, h2, _, h3⟩ := hN.keys (t := 71) Try.underlying71
  have H := Lib.hid (show ks.Pairwise (· ≠ ·) ∧ ∀ k, k ∈ ks ↔ (S k).isSome = true from ⟨h1, fun k => by rw [h2 k]; cases S k <;> rfl⟩)
  clear h hN h1 h2
  go_enter Try.func18, Try.ntmps18
  go_wp2
  go_ret
  exact ⟨ks, rfl, H.out.1, H.out.2, rfl⟩
end
end Go.Proofs.Ytkpngkdkkcadfaa
