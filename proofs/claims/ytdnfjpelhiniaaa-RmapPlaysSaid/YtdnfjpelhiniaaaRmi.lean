/- Package rmap for its laws: a map of uses as a function; its blocks. -/
import Derived.Test.YtdnfjpelhiniaaaRmh
namespace Go.Proofs.Ytdnfjpelhiniaaa
open Go.RowKit Mf

def RmB (c mb : Nat) (F : Int → Option Nat) : Nat → Prop := fun g => g = c ∨ g = mb ∨ ∃ k, F k = some g
/-- A map of uses in memory; B: its blocks. -/
def Mp (w : World) (W c N : Nat) (u : Int → Plc → Bool) (B : Nat → Prop) : Prop := ∃ mb F, RmAt w W c mb N F u ∧ B = RmB c mb F
/-- Behind a call that turns the map of uses alone. -/
def MpTo (w w' : World) (W c N : Nat) (u' : Int → Plc → Bool) (B : Nat → Prop) : Prop := ∃ B', Mp w' W c N u' B' ∧ Only B w w' ∧ ∀ g, B' g → B g ∨ w.heap.size ≤ g

section
variable {w w' : World} {W c N : Nat} {u u' : Int → Plc → Bool} {B : Nat → Prop}
theorem Mp.lt (h : Mp w W c N u B) {g : Nat} (hg : B g) : W ≤ g ∧ g < w.heap.size := by
  obtain ⟨mb, F, h, rfl⟩ := h
  rcases hg with rfl | rfl | ⟨k, hk⟩
  · exact ⟨h.r.lo.1, h.r.blk.lt⟩
  · exact ⟨h.r.lo.2.1, h.r.out.lt⟩
  · exact ⟨h.r.lo.2.2 k g hk, (h.r.inn k g hk).lt⟩
theorem Mp.below (h : Mp w W c N u B) (hb : Below w.heap.size w w') : Mp w' W c N u B := by
  obtain ⟨mb, F, h, rfl⟩ := h
  exact ⟨mb, F, h.below hb, rfl⟩
theorem Mp.drewN (h : Mp w W c N u B) (q : Nat) : Mp (w.drewN q) W c N u B := h.below (below_drewN (Below.refl _ _) q)
/-- Other blocks turn. -/
theorem Mp.apart {T : Nat → Prop} (h : Mp w W c N u B) (ho : Only T w w') (hT : ∀ g, B g → ¬ T g) : Mp w' W c N u B := by
  obtain ⟨mb, F, h, rfl⟩ := h
  exact ⟨mb, F, ⟨⟨h.r.blk.only ho (hT c (.inl rfl)), h.r.out.only ho (hT mb (.inr (.inl rfl))), fun k b hk => imap_only (h.r.inn k b hk) ho (hT b (.inr (.inr ⟨k, hk⟩))), h.r.non, h.r.inj, h.r.ne, h.r.cm, h.r.lo⟩, h.som⟩, rfl⟩
theorem Mp.to {mb N' : Nat} {F : Int → Option Nat} (h : RmTo w w' W c mb N' F u') : MpTo w w' W c N' u' (RmB c mb F) := by
  obtain ⟨F', h1, h2, h3⟩ := h
  refine ⟨_, ⟨mb, F', h1, rfl⟩, h2.mono fun g hg => ?_, fun g hg => ?_⟩
  · rcases hg with rfl | ⟨k, hk⟩
    · exact .inr (.inl rfl)
    · exact .inr (.inr ⟨k, hk⟩)
  · rcases hg with rfl | rfl | ⟨k, hk⟩
    · exact .inl (.inl rfl)
    · exact .inl (.inr (.inl rfl))
    · rcases h3 k g hk with h4 | h4
      · exact .inl (.inr (.inr h4))
      · exact .inr h4
theorem Mp.mono {N' : Nat} (h : Mp w W c N u B) (hN : N ≤ N') : Mp w W c N' u B := by
  obtain ⟨mb, F, h, rfl⟩ := h
  exact ⟨mb, F, ⟨h.r.mono hN, h.som⟩, rfl⟩

theorem lnew (w : World) : Calls Try.prog 6 #[] w fun e w' => e = .returned (.pointer (some ⟨w.heap.size + 1, 0, none⟩)) ∧ (∃ B, Mp w' w.heap.size (w.heap.size + 1) 0 (fun _ _ => false) B) ∧ Below w.heap.size w w' :=
  (mnew w).mono fun _ _ ⟨h1, h2, h3⟩ => ⟨h1, ⟨_, _, _, h2, rfl⟩, h3⟩
theorem ladd (h : Mp w W c N u B) (k : Int) (hk : (Lit.int .i64 k).wf = true) (p : Plc) (hN : N ≤ 1000000) (hW : W ≤ w.heap.size) :
    Calls Try.prog 7 #[.pointer (some ⟨c, 0, none⟩), .int .i64 k, .agg #[.int .i64 p.1.1, .int .u64 p.1.2]] w fun e w' => e = .returned (.int .i64 (addE u k p)) ∧ MpTo w w' W c (N + 2) (addU u k p) B := by
  obtain ⟨mb, F, h, rfl⟩ := h
  exact (madd h k hk p (by unfold maxLen; omega) hW).mono fun _ _ ⟨h1, h2⟩ => ⟨h1, Mp.to h2⟩
theorem ldrop (h : Mp w W c N u B) (k : Int) (hk : (Lit.int .i64 k).wf = true) (p : Plc) :
    Calls Try.prog 9 #[.pointer (some ⟨c, 0, none⟩), .int .i64 k, .agg #[.int .i64 p.1.1, .int .u64 p.1.2]] w fun e w' => e = .returned (.int .i64 (dropE u k p)) ∧ MpTo w w' W c N (dropU u k p) B := by
  obtain ⟨mb, F, h, rfl⟩ := h
  exact (mdrop h k hk p).mono fun _ _ ⟨h1, h2⟩ => ⟨h1, Mp.to h2⟩
theorem lhas (h : Mp w W c N u B) (k : Int) (hk : (Lit.int .i64 k).wf = true) (p : Plc) :
    Calls Try.prog 13 #[.pointer (some ⟨c, 0, none⟩), .int .i64 k, .agg #[.int .i64 p.1.1, .int .u64 p.1.2]] w fun e w' => e = .returned (.bool (u k p)) ∧ Below w.heap.size w w' := by
  obtain ⟨mb, F, h, rfl⟩ := h
  exact mhas h.r k hk p
theorem llist (h : Mp w W c N u B) (hN : N ≤ 1048576) (k : Int) (hk : (Lit.int .i64 k).wf = true) :
    Calls Try.prog 11 #[.pointer (some ⟨c, 0, none⟩), .int .i64 k] w fun e w' => ∃ (v : Value) (ts : List Plc), e = .returned v ∧ PlacesOf (u k) ts ∧ PRow w' w.heap.size v ts ∧ Below w.heap.size w w' := by
  obtain ⟨mb, F, h, rfl⟩ := h
  exact mlist h hN k hk
theorem lframes (h : Mp w W c N u B) (hN : N ≤ 1048576) :
    Calls Try.prog 12 #[.pointer (some ⟨c, 0, none⟩)] w fun e w' => ∃ (v : Value) (fs : List Int), e = .returned v ∧ FramesOf u fs ∧ IRow w' w.heap.size v fs ∧ Below w.heap.size w w' := by
  obtain ⟨mb, F, h, rfl⟩ := h
  exact mframes h hN
theorem MpTo.bel {w0 : World} {N' : Nat} (h : MpTo w w' W c N' u' B) (hb : Below w0.heap.size w0 w) (h0 : Mp w W c N u B) (hW : w0.heap.size ≤ W) : Below w0.heap.size w0 w' := by
  obtain ⟨B', _, h2, _⟩ := h
  exact hb.trans (h2.to_below (fun k hk => by have := (h0.lt hk).1; omega) hb.size)
end

def pa : Plc := ⟨(2, 7), by decide, by decide⟩
def pb : Plc := ⟨(1, 9), by decide, by decide⟩
def u0 : Int → Plc → Bool := fun _ _ => false
def u1 := addU u0 5 pa
def u2 := addU u1 5 pb
def u3 := addU u2 5 pa
def u4 := addU u3 (-1) pa
def u5 := dropU u4 5 pa
theorem m1 : addE u0 5 pa = 0 := by decide +kernel
theorem m2 : addE u1 5 pb = 0 := by decide +kernel
theorem m3 : addE u2 5 pa = 22 := by decide +kernel
theorem m4 : addE u3 (-1) pa = 1 := by decide +kernel
theorem m5 : dropE u4 5 pa = 0 := by decide +kernel
theorem m6 : dropE u5 5 pa = 23 := by decide +kernel
theorem m7 : u4 5 pa = true := by decide +kernel
theorem u4_iff (k : Int) (p : Plc) : u4 k p = true ↔ k = 5 ∧ (p = pb ∨ p = pa) := by
  unfold u4 u3 u2 u1 addU
  simp [u0]
  constructor
  · rintro (h | h | h)
    · exact ⟨h.1, .inr h.2⟩
    · exact ⟨h.1, .inl h.2⟩
    · exact ⟨h.1, .inr h.2⟩
  · rintro ⟨h1, h | h⟩
    · exact .inr (.inl ⟨h1, h⟩)
    · exact .inl ⟨h1, h⟩
theorem u4_places : PlacesOf (u4 5) [pb, pa] := ⟨by decide, fun p => by rw [u4_iff]; simp⟩
theorem u4_frames : FramesOf u4 [5] := ⟨List.pairwise_singleton .., fun k => by
  rw [List.mem_singleton]
  constructor
  · rintro rfl; exact ⟨pb, (u4_iff _ _).2 ⟨rfl, .inl rfl⟩⟩
  · rintro ⟨p, hp⟩; exact ((u4_iff _ _).1 hp).1⟩
theorem wf5 : (Lit.int .i64 5).wf = true := by decide
theorem wfm1 : (Lit.int .i64 (-1)).wf = true := by decide
end Go.Proofs.Ytdnfjpelhiniaaa
