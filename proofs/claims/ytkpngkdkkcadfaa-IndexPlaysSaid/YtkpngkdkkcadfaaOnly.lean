/- Which blocks may have turned: a word for what a call leaves as it was. -/
import Derived.Test.YtkpngkdkkcadfaaMem
import Derived.Test.YtkpngkdkkcadfaaMapf
namespace Go.Proofs.Ytkpngkdkkcadfaa
open Go.RowKit Mf

/-- Of the blocks that were there, those of S alone may have turned. -/
structure Only (S : Nat → Prop) (w w' : World) : Prop where
  os : w'.os = w.os
  tape : w'.tape = w.tape
  output : w'.output = w.output
  size : w.heap.size ≤ w'.heap.size
  block : ∀ k, k < w.heap.size → ¬ S k → w'.heap[k]? = w.heap[k]?

section
variable {S S' : Nat → Prop} {w w' w'' : World}
theorem Only.refl (S : Nat → Prop) (w : World) : Only S w w := ⟨rfl, rfl, rfl, Nat.le_refl _, fun _ _ _ => rfl⟩
theorem Only.trans (h : Only S w w') (k : Only S w' w'') : Only S w w'' :=
  ⟨k.os.trans h.os, k.tape.trans h.tape, k.output.trans h.output, Nat.le_trans h.size k.size, fun i hi hS => (k.block i (Nat.lt_of_lt_of_le hi h.size) hS).trans (h.block i hi hS)⟩
theorem Only.mono (h : Only S w w') (hS : ∀ k, S k → S' k) : Only S' w w' := ⟨h.os, h.tape, h.output, h.size, fun i hi hn => h.block i hi (fun hs => hn (hS i hs))⟩
theorem Only.mono' (h : Only S w w') (hS : ∀ k, k < w.heap.size → S k → S' k) : Only S' w w' := ⟨h.os, h.tape, h.output, h.size, fun i hi hn => h.block i hi (fun hs => hn (hS i hi hs))⟩
theorem Only.alloc (h : Only S w w') (o : Obj) : Only S w (w'.alloc o) :=
  ⟨h.os, h.tape, h.output, Nat.le_trans h.size (by simp), fun i hi hS => (Below.heap_alloc w' o i (Nat.lt_of_lt_of_le hi h.size)).trans (h.block i hi hS)⟩
theorem Only.drew (h : Only S w w') : Only S w w'.drew := ⟨h.os, h.tape, h.output, h.size, h.block⟩
theorem Only.drewN (h : Only S w w') (n : Nat) : Only S w (w'.drewN n) := ⟨h.os, h.tape, h.output, h.size, h.block⟩
theorem Only.setCell (h : Only S w w') {p : Addr} (hp : S p.block ∨ w.heap.size ≤ p.block) (u : Value) : Only S w (w'.setCell p u) :=
  ⟨h.os, h.tape, h.output, by simpa [World.setCell] using h.size, fun i hi hS => (Below.heap_setCell w' p u i (by
    rintro rfl
    rcases hp with hp | hp
    · exact hS hp
    · omega)).trans (h.block i hi hS)⟩
theorem Only.below {B : Nat} (h : Only S w w') (hb : Below B w' w'') (hB : ∀ k, k < w.heap.size → B ≤ k → S k) : Only S w w'' :=
  ⟨hb.os.trans h.os, hb.tape.trans h.tape, hb.output.trans h.output, Nat.le_trans h.size hb.size, fun i hi hS => (hb.block i (by
    rcases Nat.lt_or_ge i B with h1 | h1
    · exact h1
    · exact absurd (hB i hi h1) hS)).trans (h.block i hi hS)⟩
/-- Behind a call that makes memory alone. -/
theorem Only.new (h : Only S w w') (hb : Below w'.heap.size w' w'') : Only S w w'' := h.below hb (fun k hk hB => by have := h.size; omega)
theorem Only.grown (h : Only S w w') {row : Option Nat} (hg : w'.grownBy w'' row) (hr : ∀ g, row = some g → S g ∨ w.heap.size ≤ g) : Only S w w'' :=
  ⟨hg.os.trans h.os, hg.tape.trans h.tape, hg.output.trans h.output, Nat.le_trans h.size hg.size, fun i hi hS => (hg.block i (Nat.lt_of_lt_of_le hi h.size) (fun e => by
    rcases hr i e.symm with h1 | h1
    · exact hS h1
    · omega)).trans (h.block i hi hS)⟩
theorem Only.turned (h : Only S w w') {b : Nat} (hg : w'.mapTurned w'' b) (hr : S b ∨ w.heap.size ≤ b) : Only S w w'' := h.grown hg.grown (fun g e => by cases e; exact hr)
theorem Only.to_below (h : Only S w w') {B : Nat} (hS : ∀ k, S k → B ≤ k) (hB : B ≤ w.heap.size) : Below B w w' :=
  ⟨h.os, h.tape, h.output, h.size, fun k hk => h.block k (by omega) (fun hs => by have := hS k hs; omega)⟩
theorem only_below {B : Nat} (h : Below B w w') (hB : ∀ k, k < w.heap.size → B ≤ k → S k) : Only S w w' := (Only.refl S w).below h hB
theorem only_fresh (h : Below w.heap.size w w') : Only S w w' := (Only.refl S w).new h
theorem Only.cell (h : Only S w w') {p : Addr} (hp : p.block < w.heap.size) (hS : ¬ S p.block) : w'.cell? p = w.cell? p := World.cell?_of_block (w := w) (h.block p.block hp hS)
theorem Blk.only {g : Nat} {t : TypeId} {cs : Array Value} (h : Blk w g t cs) (ho : Only S w w') (hg : ¬ S g) : Blk w' g t cs := (ho.block g h.lt hg).trans h
theorem Mf.MapF.only {E : Type} {P : Program} {K : TypeId} {q : IntKind} {C : Enc E} {b n : Nat} {f : Int → Option E} (h : MapF P K q C w b n f) (ho : Only S w w') (hb : ¬ S b) : MapF P K q C w' b n f := by
  have hlt := h.lt
  obtain ⟨D, ⟨es, clock, hh, r1⟩, r⟩ := h
  exact ⟨D, ⟨es, clock, (ho.block b hlt hb).trans hh, r1⟩, r⟩
theorem Reads.only {B size n : Nat} {A : Option Addr} {xs : List Value} (h : Reads w B size A n xs) (ho : Only S w w') (hB : B ≤ w.heap.size) (hS : ∀ k, S k → B ≤ k) : Reads w' B size A n xs :=
  h.below (ho.to_below hS hB)
theorem Blk.not_map {g : Nat} {t : TypeId} {cs : Array Value} {E : Type} {P : Program} {K : TypeId} {q : IntKind} {C : Enc E} {n : Nat} {f : Int → Option E} (h : Blk w g t cs) {b : Nat} (hm : MapF P K q C w b n f) : g ≠ b := by
  rintro rfl
  obtain ⟨D, ⟨es, clock, hh, r1⟩, r⟩ := hm
  unfold Blk at h
  rw [h] at hh
  cases hh
end
end Go.Proofs.Ytkpngkdkkcadfaa
