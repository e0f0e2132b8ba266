/- Package index for its laws: memory and index together. -/
import Derived.Test.YtkpngkdkkcadfaaIxh
namespace Go.Proofs.Ytkpngkdkkcadfaa
open Go.RowKit Mk

def D12 (S : Ki → Option Cx) : Prop := ∀ k z, S k = some z → 0 ≤ k.1 ∧ k.1 < 12
/-- A memory of 12 frames and an index over it, apart; B: their blocks. -/
def Bk (w : World) (W cm cx : Nat) (G : Int → Nat → Nat) (S : Ki → Option Cx) (B : Nat → Prop) : Prop := ∃ Bm Bx, Pm w W cm 12 G Bm ∧ Xm w W cx cm S Bx ∧ (∀ g, Bm g → ¬ Bx g) ∧ D12 S ∧ W ≤ w.heap.size ∧ B = fun g => Bm g ∨ Bx g
def BkTo (w w' : World) (W cm cx : Nat) (G' : Int → Nat → Nat) (S' : Ki → Option Cx) (B : Nat → Prop) : Prop := ∃ B', Bk w' W cm cx G' S' B' ∧ Only B w w' ∧ ∀ g, B' g → B g ∨ w.heap.size ≤ g
section
variable {w w' : World} {W cm cx : Nat} {G G' : Int → Nat → Nat} {S S' : Ki → Option Cx} {B : Nat → Prop}
theorem Bk.lt (h : Bk w W cm cx G S B) {g : Nat} (hg : B g) : W ≤ g ∧ g < w.heap.size := by
  obtain ⟨Bm, Bx, h1, h2, _, _, _, rfl⟩ := h
  rcases hg with hg | hg
  · exact h1.lt hg
  · exact h2.lt hg
theorem Bk.bytes (h : Bk w W cm cx G S B) (k : Int) (j : Nat) : G k j < 256 := by
  obtain ⟨Bm, Bx, h1, _⟩ := h; exact h1.bytes k j
theorem Bk.dom (h : Bk w W cm cx G S B) : D12 S := by
  obtain ⟨Bm, Bx, _, _, _, h1, _⟩ := h; exact h1
theorem Bk.le (h : Bk w W cm cx G S B) : W ≤ w.heap.size := by
  obtain ⟨Bm, Bx, _, _, _, _, h1, _⟩ := h; exact h1
theorem Bk.below (h : Bk w W cm cx G S B) (hb : Below w.heap.size w w') : Bk w' W cm cx G S B := by
  obtain ⟨Bm, Bx, h1, h2, h3, h4, h5, rfl⟩ := h
  exact ⟨Bm, Bx, h1.below hb, h2.below hb, h3, h4, Nat.le_trans h5 hb.size, rfl⟩
theorem Bk.drewN (h : Bk w W cm cx G S B) (q : Nat) : Bk (w.drewN q) W cm cx G S B := h.below (below_drewN (Below.refl _ _) q)
theorem Bk.apart {T : Nat → Prop} (h : Bk w W cm cx G S B) (ho : Only T w w') (hT : ∀ g, B g → ¬ T g) : Bk w' W cm cx G S B := by
  obtain ⟨Bm, Bx, h1, h2, h3, h4, h5, rfl⟩ := h
  exact ⟨Bm, Bx, h1.apart ho fun g hg => hT g (.inl hg), h2.apart ho fun g hg => hT g (.inr hg), h3, h4, Nat.le_trans h5 ho.size, rfl⟩
theorem BkTo.bel {w0 : World} (h : BkTo w w' W cm cx G' S' B) (hb : Below w0.heap.size w0 w) (h0 : Bk w W cm cx G S B) (hW : w0.heap.size ≤ W) : Below w0.heap.size w0 w' := by
  obtain ⟨B', _, h2, _⟩ := h
  exact hb.trans (h2.to_below (fun k hk => by have := (h0.lt hk).1; omega) hb.size)
theorem Bk.toX {Bm Bx : Nat → Prop} (h1 : Pm w W cm 12 G Bm) (h3 : ∀ g, Bm g → ¬ Bx g) (h5 : W ≤ w.heap.size) (ht : XmTo w w' W cx cm S' Bx) (hd : D12 S') : BkTo w w' W cm cx G S' (fun g => Bm g ∨ Bx g) := by
  obtain ⟨B', a1, a2, a3⟩ := ht
  refine ⟨_, ⟨Bm, B', h1.apart a2 h3, a1, fun g hg hg' => ?_, hd, Nat.le_trans h5 a2.size, rfl⟩, a2.mono fun g hg => .inr hg, fun g hg => ?_⟩
  · rcases a3 g hg' with h | h
    · exact h3 g hg h
    · have := (h1.lt hg).2; omega
  · rcases hg with hg | hg
    · exact .inl (.inl hg)
    · rcases a3 g hg with h | h
      · exact .inl (.inr h)
      · exact .inr h
theorem Bk.toM {Bm Bx : Nat → Prop} (h2 : Xm w W cx cm S Bx) (h3 : ∀ g, Bm g → ¬ Bx g) (h5 : W ≤ w.heap.size) (ht : PmTo w w' W cm 12 G' Bm) (hd : D12 S) : BkTo w w' W cm cx G' S (fun g => Bm g ∨ Bx g) := by
  obtain ⟨B', a1, a2, a3⟩ := ht
  refine ⟨_, ⟨B', Bx, a1, h2.apart a2 fun g hg hg' => h3 g hg' hg, fun g hg hg' => ?_, hd, Nat.le_trans h5 a2.size, rfl⟩, a2.mono fun g hg => .inl hg, fun g hg => ?_⟩
  · rcases a3 g hg with h | h
    · exact h3 g h hg'
    · have := (h2.lt hg').2; omega
  · rcases hg with hg | hg
    · rcases a3 g hg with h | h
      · exact .inl (.inl h)
      · exact .inr h
    · exact .inl (.inr hg)

theorem kwrite (h : Bk w W cm cx G S B) {fr a s x : Nat} (hs : s = 1 ∨ s = 8) (ha : a % s = 0) (hb : a + s ≤ 4096) (hx : x = fr * 4096 + a) (hf : fr ≤ 1000000) (v : Nat) :
    Calls Try.prog 7 #[.pointer (some ⟨cm, 0, none⟩), .int .u64 x, .int .i64 s, .int .u64 v] w fun e w' => (fr < 12 ∧ e = .returned (.int .i64 0) ∧ BkTo w w' W cm cx (wrF G fr (putB (G fr) a s v)) S B) ∨ (12 ≤ fr ∧ e = .returned (.int .i64 2) ∧ Below w.heap.size w w') := by
  obtain ⟨Bm, Bx, h1, h2, h3, h4, h5, rfl⟩ := h
  refine (pwrite h1 (by omega) hs ha hb hx hf v h5).mono ?_
  rintro e w' (⟨c1, c2, c3⟩ | ⟨c1, c2, c3⟩)
  · exact .inl ⟨c1, c2, Bk.toM h2 h3 h5 c3 h4⟩
  · exact .inr ⟨c1, c2, c3⟩
theorem kadd (h : Bk w W cm cx G S B) (k : Int) (hk : (Lit.int .i64 k).wf = true) :
    Calls Try.prog 8 #[.pointer (some ⟨cx, 0, none⟩), .int .i64 k] w fun e w' => (¬ (0 ≤ k ∧ k < 12) ∧ e = .returned (.int .i64 2) ∧ Below w.heap.size w w') ∨
      ((0 ≤ k ∧ k < 12) ∧ (S ⟨k, hk⟩).isSome = true ∧ e = .returned (.int .i64 22) ∧ Below w.heap.size w w') ∨
      ((0 ≤ k ∧ k < 12) ∧ S ⟨k, hk⟩ = none ∧ e = .returned (.int .i64 0) ∧ BkTo w w' W cm cx G (putS S ⟨k, hk⟩ (dig (G k))) B) := by
  obtain ⟨Bm, Bx, h1, h2, h3, h4, h5, rfl⟩ := h
  refine (xadd h1 h2 (by omega) h5 k hk).mono ?_
  rintro e w' (⟨c1, c2, c3⟩ | ⟨c1, c2, c3, c4⟩ | ⟨c1, c2, c3, c4⟩)
  · exact .inl ⟨c1, c2, c3⟩
  · exact .inr (.inl ⟨c1, c2, c3, c4⟩)
  · refine .inr (.inr ⟨c1, c2, c3, Bk.toX h1 h3 h5 c4 fun j z hj => ?_⟩)
    unfold putS at hj
    by_cases e : j = ⟨k, hk⟩
    · subst e; exact c1
    · rw [if_neg e] at hj; exact h4 j z hj
theorem kdrop (h : Bk w W cm cx G S B) (k : Int) (hk : (Lit.int .i64 k).wf = true) :
    Calls Try.prog 11 #[.pointer (some ⟨cx, 0, none⟩), .int .i64 k] w fun e w' => (S ⟨k, hk⟩ = none ∧ e = .returned (.int .i64 23) ∧ w = w') ∨ ((S ⟨k, hk⟩).isSome = true ∧ e = .returned (.int .i64 0) ∧ BkTo w w' W cm cx G (delS S ⟨k, hk⟩) B) := by
  obtain ⟨Bm, Bx, h1, h2, h3, h4, h5, rfl⟩ := h
  refine (xdrop h2 k hk).mono ?_
  rintro e w' (⟨c1, c2, c3⟩ | ⟨c1, c2, c3⟩)
  · exact .inl ⟨c1, c2, c3⟩
  · refine .inr ⟨c1, c2, Bk.toX h1 h3 h5 c3 fun j z hj => ?_⟩
    unfold delS at hj
    by_cases e : j = ⟨k, hk⟩
    · rw [if_pos e] at hj; cases hj
    · rw [if_neg e] at hj; exact h4 j z hj
theorem kfind (h : Bk w W cm cx G S B) {b cap : Nat} {g : Nat → Nat} (hp : Pg w b g) (hg : ∀ j, g j < 256) (nt : Int) :
    Calls Try.prog 10 #[.pointer (some ⟨cx, 0, none⟩), .slice (some ⟨b, 0, none⟩) 4096 cap, .int .i64 nt] w (FindIs w G S g nt) := by
  obtain ⟨Bm, Bx, h1, h2, h3, h4, h5, rfl⟩ := h
  exact xfind h1 h2 h4 hp hg nt
theorem kalike (h : Bk w W cm cx G S B) : Calls Try.prog 20 #[.pointer (some ⟨cx, 0, none⟩)] w (AlIs w S) := by
  obtain ⟨Bm, Bx, h1, h2, h3, h4, h5, rfl⟩ := h
  exact xalike h2
theorem kget (h : Bk w W cm cx G S B) (k : Int) (hk : (Lit.int .i64 k).wf = true) : Calls Try.prog 9 #[.pointer (some ⟨cm, 0, none⟩), .int .i64 k] w (GetIs w 12 G k) := by
  obtain ⟨Bm, Bx, h1, h2, h3, h4, h5, rfl⟩ := h
  exact pget h1 k hk
theorem khas (h : Bk w W cm cx G S B) (k : Int) (hk : (Lit.int .i64 k).wf = true) : Calls Try.prog 22 #[.pointer (some ⟨cx, 0, none⟩), .int .i64 k] w fun e w' => e = .returned (.bool (S ⟨k, hk⟩).isSome) ∧ w = w' := by
  obtain ⟨Bm, Bx, h1, ⟨_, _, _, h2, _⟩, h3, h4, h5, rfl⟩ := h
  exact xhas h2 k hk
theorem kcount (h : Bk w W cm cx G S B) : Calls Try.prog 18 #[.pointer (some ⟨cx, 0, none⟩)] w fun e w' => ∃ ks : List Ki, e = .returned (.int .i64 (ks.length : Nat)) ∧ ks.Pairwise (· ≠ ·) ∧ (∀ k, k ∈ ks ↔ (S k).isSome = true) ∧ w = w' := by
  obtain ⟨Bm, Bx, h1, ⟨_, _, _, h2, _⟩, h3, h4, h5, rfl⟩ := h
  exact xcount h2
theorem ksame (h : Bk w W cm cx G S B) (a b : Int) (ha : (Lit.int .i64 a).wf = true) (hb : (Lit.int .i64 b).wf = true) (ha2 : 0 ≤ a ∧ a < 12) (hb2 : 0 ≤ b ∧ b < 12) :
    Calls Try.prog 23 #[.pointer (some ⟨cm, 0, none⟩), .int .i64 a, .int .i64 b] w fun e w' => ∃ r, e = .returned (.bool r) ∧ (r = true ↔ ∀ j, j < 4096 → G a j = G b j) ∧ Below w.heap.size w w' := by
  obtain ⟨Bm, Bx, h1, h2, h3, h4, h5, rfl⟩ := h
  exact psameF h1 a b ha hb ha2 hb2
def MadeIs (w : World) (e : Ending) (w' : World) : Prop := ∃ cm cx B, e = .returned (.tuple #[.pointer (some ⟨cm, 0, none⟩), .pointer (some ⟨cx, 0, none⟩), .bool true]) ∧ Bk w' w.heap.size cm cx (fun _ _ => 0) (fun _ => none) B ∧ Below w.heap.size w w'
theorem kmade (w : World) : Calls Try.prog 6 #[] w (MadeIs w) := by
  go_enter Try.func6, Try.ntmps6
  go_wp2_with fail
  refine (pnew 12 (by omega) w).mono ?_; rintro e w1 ⟨rfl, ⟨B1, h1⟩, hb1⟩
  have H1 := Lib.hid h1
  have HB1 := Lib.hid hb1
  generalize hcm : w.heap.size + 1 = cm at *
  clear h1 hb1 hcm
  go_wp2_with fail
  refine (xnew cm w1).mono ?_; rintro e w2 ⟨rfl, ⟨B2, h2⟩, hb2⟩
  have H2 := Lib.hid (show MadeIs w (.returned (.tuple #[.pointer (some ⟨cm, 0, none⟩), .pointer (some ⟨w1.heap.size + 2, 0, none⟩), .bool true])) w2 from by
    obtain ⟨ms, mb, BF, hx, rfl⟩ := h2
    refine ⟨cm, _, _, rfl, ⟨B1, _, H1.out.below hb2, ⟨ms, mb, BF, ⟨hx.blk, hx.sm, hx.bm, fun z v hz => ?_, hx.non, hx.inj, hx.ap, ?_, hx.df, hx.dom⟩, rfl⟩, fun g hg hg' => ?_, fun k z h => (by cases h), Nat.le_trans HB1.out.size hb2.size, rfl⟩, HB1.out.trans (hb2.mono HB1.out.size)⟩
    · obtain ⟨l, a1, a2, a3⟩ := hx.row z v hz
      exact ⟨l, a1, a2, ownsRow_mono a3 HB1.out.size⟩
    · have := HB1.out.size
      have := hx.lo
      omega
    · have := (H1.out.lt hg).2
      have := (Xm.lt ⟨ms, mb, BF, hx, rfl⟩ hg').1
      omega)
  generalize w1.heap.size + 2 = cx at *
  clear h2 hb2
  go_wp2
  go_ret3
  exact H2.out
end
end Go.Proofs.Ytkpngkdkkcadfaa
