/- RmapPlays: the map and the document's own, side by side. -/
import Derived.Test.YtdnfjpelhiniaaaRms
namespace Go.Proofs.Ytdnfjpelhiniaaa
open Go.RowKit Mf

structure Pl (w wr : World) (cm c N : Nat) (u : Int → Plc → Bool) (Bm : Nat → Prop) (v : Value) (xs : List Us) : Prop where
  mp : Mp wr w.heap.size cm N u Bm
  ru : RU wr c (c + 1) v xs
  d1 : ¬ Bm c
  d2 : ∀ g, v.ownBlock = some g → ¬ Bm g
  ge : w.heap.size ≤ c
  be : Below w.heap.size w wr
/-- A block of neither. -/
def Fo (Bm : Nat → Prop) (c : Nat) (v : Value) (g : Nat) : Prop := ¬ Bm g ∧ g ≠ c ∧ v.ownBlock ≠ some g
section
variable {w wr w' : World} {cm c N N' : Nat} {u u' : Int → Plc → Bool} {Bm : Nat → Prop} {v : Value} {xs ys : List Us}
theorem Pl.fresh (h : Pl w wr cm c N u Bm v xs) (hb : Below wr.heap.size wr w') : Pl w w' cm c N u Bm v xs :=
  ⟨h.mp.below hb, h.ru.below hb, h.d1, h.d2, h.ge, h.be.trans (hb.mono h.be.size)⟩
theorem Pl.drewN (h : Pl w wr cm c N u Bm v xs) (q : Nat) : Pl w (wr.drewN q) cm c N u Bm v xs := h.fresh (below_drewN (Below.refl _ _) q)
theorem Pl.mono (h : Pl w wr cm c N u Bm v xs) (hN : N ≤ N') : Pl w wr cm c N' u Bm v xs := ⟨h.mp.mono hN, h.ru, h.d1, h.d2, h.ge, h.be⟩
theorem Pl.fo (h : Pl w wr cm c N u Bm v xs) {g : Nat} (hg : wr.heap.size ≤ g) : Fo Bm c v g :=
  ⟨fun hb => by have := (h.mp.lt hb).2; omega, fun e => by have := h.ru.blk.lt; omega, fun e => by have := (own_lt h.ru.own e).2; omega⟩
theorem Pl.toM (h : Pl w wr cm c N u Bm v xs) (ht : MpTo wr w' w.heap.size cm N' u' Bm) :
    ∃ Bm', Pl w w' cm c N' u' Bm' v xs ∧ ∀ g t cs, Blk wr g t cs → Fo Bm c v g → Blk w' g t cs ∧ Fo Bm' c v g := by
  have hb := ht.bel h.be h.mp (Nat.le_refl _)
  obtain ⟨B', h1, h2, h3⟩ := ht
  have key : ∀ g, g < wr.heap.size → ¬ Bm g → ¬ B' g := fun g hl hn hg => by
    rcases h3 g hg with h4 | h4
    · exact hn h4
    · omega
  exact ⟨B', ⟨h1, h.ru.apart h2 h.d1 h.d2, key _ h.ru.blk.lt h.d1, fun g hg => key g (own_lt h.ru.own hg).2 (h.d2 g hg), h.ge, hb⟩,
    fun g t cs k1 k2 => ⟨k1.only h2 k2.1, key g k1.lt k2.1, k2.2⟩⟩
theorem Pl.toR (h : Pl w wr cm c N u Bm v xs) (ht : RuTo wr w' c (c + 1) v ys) :
    ∃ v', Pl w w' cm c N u Bm v' ys ∧ ∀ g t cs, Blk wr g t cs → Fo Bm c v g → Blk w' g t cs ∧ Fo Bm c v' g := by
  obtain ⟨v', h1, h2, h3⟩ := ht
  have hb : Below w.heap.size w w' := h.be.trans (h2.to_below (fun k hk => by
    rcases hk with rfl | hk
    · exact h.ge
    · have := (own_lt h.ru.own hk).1; have := h.ge; omega) h.be.size)
  refine ⟨v', ⟨h.mp.apart h2 fun g hg hs => ?_, h1, h.d1, fun g hg hb => ?_, h.ge, hb⟩, fun g t cs k1 k2 => ⟨k1.only h2 fun hs => ?_, k2.1, k2.2.1, fun e => ?_⟩⟩
  · rcases hs with rfl | hs
    · exact h.d1 hg
    · exact h.d2 g hs hg
  · rcases h3 g hg with h4 | h4
    · exact h.d2 g h4 hb
    · have := (h.mp.lt hb).2; omega
  · rcases hs with hs | hs
    · exact k2.2.1 hs
    · exact k2.2.2 hs
  · rcases h3 g e with h4 | h4
    · exact k2.2.2 h4
    · have := k1.lt; omega
theorem Pl.poke (h : Pl w wr cm c N u Bm v xs) {g : Nat} (hf : Fo Bm c v g) (hg : w.heap.size ≤ g) (q : Nat) (x : Value) : Pl w (wr.setCell ⟨g, q, none⟩ x) cm c N u Bm v xs := by
  have ho : Only (fun k => k = g) wr (wr.setCell ⟨g, q, none⟩ x) := Only.setCell (S := fun k => k = g) (Only.refl _ wr) (p := ⟨g, q, none⟩) (.inl rfl) x
  exact ⟨h.mp.apart ho fun k hk e => hf.1 (e ▸ hk), h.ru.apart ho (fun e => hf.2.1 e.symm) (fun k hk e => hf.2.2 (e ▸ hk)), h.d1, h.d2, h.ge, h.be.trans (ho.to_below (fun k e => by rw [e]; exact hg) h.be.size)⟩
end

/-- A row of neither. -/
def FoR (w0 : World) (Bm : Nat → Prop) (c : Nat) (v va : Value) : Prop := ∀ g, va.ownBlock = some g → Fo Bm c v g ∧ w0.heap.size ≤ g
theorem Pl.foR {w wr w' : World} {cm c N : Nat} {u : Int → Plc → Bool} {Bm : Nat → Prop} {v va : Value} {xs : List Us} {e : TypeId} {size n : Nat} {cs : List Value} (h : Pl w wr cm c N u Bm v xs) (hr : w'.ownsRow wr.heap.size e size va n cs) : FoR w Bm c v va := fun g hg => by
  have h1 := (own_lt hr hg).1
  exact ⟨h.fo h1, by have := h.be.size; omega⟩

/-- The rounds. -/
def PlR (w : World) (cm c : Nat) (vi : Value) (wr : World) : Prop := ∃ (i : Nat) (u : Int → Plc → Bool) (Bm : Nat → Prop) (v : Value) (xs : List Us), vi = .int .i64 i ∧ i ≤ 80 ∧ xs.length ≤ i ∧ Pl w wr cm c (2 * i) u Bm v xs ∧ USim xs u
def PlC (w : World) (cm c i go_ : Nat) (cs : Array Value) (vx vy : Value) (wr : World) : Prop := ∃ (x : Int) (u : Int → Plc → Bool) (Bm : Nat → Prop) (v : Value) (xs : List Us), vx = .int .i64 x ∧ vy = .int .i64 x ∧ xs.length ≤ i + 1 ∧ Pl w wr cm c (2 * (i + 1)) u Bm v xs ∧ USim xs u ∧ Blk wr go_ 33 cs
/-- What was told is written over. -/
def PlA (w : World) (cm c N : Nat) (u : Int → Plc → Bool) (Bm : Nat → Prop) (v : Value) (xs : List Us) (va vf : Value) (ta tf : Nat) (vk : Value) (wr : World) : Prop := ∃ (k : Nat) (cs ds : List Value) (ba bf : Nat), vk = .int .i64 k ∧ k ≤ ta ∧ Pl w wr cm c N u Bm v xs ∧ wr.ownsRow ba 31 2 va ta cs ∧ wr.ownsRow bf 3 1 vf tf ds
def PlF (w : World) (cm c N : Nat) (u : Int → Plc → Bool) (Bm : Nat → Prop) (v : Value) (xs : List Us) (vf : Value) (tf : Nat) (vk : Value) (wr : World) : Prop := ∃ (k : Nat) (ds : List Value) (bf : Nat), vk = .int .i64 k ∧ k ≤ tf ∧ Pl w wr cm c N u Bm v xs ∧ wr.ownsRow bf 3 1 vf tf ds
theorem USim.zero : USim [] (fun _ _ => false) := ⟨List.Pairwise.nil, fun k p => ⟨fun h => (by cases h), fun h => (by cases h)⟩⟩
end Go.Proofs.Ytdnfjpelhiniaaa
