/- Package phys: a memory as a function of frames and places. -/
import Derived.Test.YtkpngkdkkcadfaaPhb
import Derived.Test.YtkpngkdkkcadfaaKcx
import Derived.Laws.OwnMore
import Derived.Laws.MakeOwn
namespace Go.Proofs.Ytkpngkdkkcadfaa
open Go.RowKit Mk

theorem made_row (z : Value) (h : z.cells = #[z]) (n : Nat) : (madeCells z.cells (n * 1)).toList = List.replicate n z := by
  apply List.ext_getElem?
  intro j
  unfold madeCells
  rw [h, Nat.mul_one]
  by_cases hj : j < n
  · rw [List.getElem?_replicate, if_pos hj]; simp [hj, Nat.mod_one]
  · rw [List.getElem?_replicate, if_neg hj]; simp [hj]
theorem byL_zero (n : Nat) : List.replicate n (Value.int .u8 0) = byL (fun _ => 0) n := by
  apply List.ext_getElem?
  intro j
  by_cases hj : j < n
  · rw [byL_get hj, List.getElem?_replicate, if_pos hj]; rfl
  · rw [List.getElem?_eq_none (l := byL _ n) (by rw [byL_len]; omega), List.getElem?_replicate, if_neg hj]

/-- A memory's blocks. -/
def PhB (c mb : Nat) (PF : Ki → Option Value) : Nat → Prop := fun g => g = c ∨ g = mb ∨ ∃ k v, PF k = some v ∧ v.ownBlock = some g
structure Ph (w : World) (W c mb n : Nat) (PF : Ki → Option Value) (G : Int → Nat → Nat) : Prop where
  blk : ∃ o : Int, Blk w c 68 #[.int .i64 n, .map (some mb), .int .i64 o]
  pm : ∃ N, KMap Try.prog 3 kiK w mb N PF
  row : ∀ k v, PF k = some v → BRow w W v (G k.1)
  zer : ∀ k : Ki, PF k = none → ∀ j, G k.1 j = 0
  byt : ∀ k j, G k j < 256
  lo : W ≤ c ∧ W ≤ mb ∧ c ≠ mb
  ap : ∀ k v, PF k = some v → v.ownBlock ≠ some c ∧ v.ownBlock ≠ some mb
def Pm (w : World) (W c n : Nat) (G : Int → Nat → Nat) (B : Nat → Prop) : Prop := ∃ mb PF, Ph w W c mb n PF G ∧ B = PhB c mb PF
def PmTo (w w' : World) (W c n : Nat) (G' : Int → Nat → Nat) (B : Nat → Prop) : Prop := ∃ B', Pm w' W c n G' B' ∧ Only B w w' ∧ ∀ g, B' g → B g ∨ w.heap.size ≤ g
section
variable {w w' : World} {W c mb n : Nat} {PF : Ki → Option Value} {G G' : Int → Nat → Nat} {B : Nat → Prop}
theorem own_keep {S : Nat → Prop} {base size n : Nat} {e : TypeId} {v : Value} {zs : List Value} (h : w.ownsRow base e size v n zs) (ho : Only S w w') (hS : ∀ g, v.ownBlock = some g → ¬ S g) : w'.ownsRow base e size v n zs := by
  obtain ⟨h1, h2⟩ := h
  refine ⟨h1, ?_⟩
  rcases h2 with h2 | ⟨g, cap, cur, e1, e2, e3, e4⟩
  · exact .inl h2
  · have hlt : g < w.heap.size := (Array.getElem?_eq_some_iff.1 e3).1
    exact .inr ⟨g, cap, cur, e1, e2, (ho.block g hlt (hS g (by rw [e1]; rfl))).trans e3, e4⟩
theorem Ph.below (h : Ph w W c mb n PF G) (hb : Below w.heap.size w w') : Ph w' W c mb n PF G := by
  obtain ⟨o, ho⟩ := h.blk
  obtain ⟨N, hN⟩ := h.pm
  exact ⟨⟨o, ho.below hb ho.lt⟩, ⟨N, hN.below hb hN.lt⟩, fun k v hk => own_below (h.row k v hk) hb, h.zer, h.byt, h.lo, h.ap⟩
theorem Ph.apart {S : Nat → Prop} (h : Ph w W c mb n PF G) (ho : Only S w w') (hS : ∀ g, PhB c mb PF g → ¬ S g) : Ph w' W c mb n PF G := by
  obtain ⟨o, hb⟩ := h.blk
  obtain ⟨N, hN⟩ := h.pm
  exact ⟨⟨o, hb.only ho (hS _ (.inl rfl))⟩, ⟨N, hN.only ho (hS _ (.inr (.inl rfl)))⟩, fun k v hk => own_keep (h.row k v hk) ho fun g hg => hS g (.inr (.inr ⟨k, v, hk, hg⟩)), h.zer, h.byt, h.lo, h.ap⟩
theorem Pm.below (h : Pm w W c n G B) (hb : Below w.heap.size w w') : Pm w' W c n G B := by
  obtain ⟨mb, PF, h, rfl⟩ := h; exact ⟨mb, PF, h.below hb, rfl⟩
theorem Pm.drewN (h : Pm w W c n G B) (q : Nat) : Pm (w.drewN q) W c n G B := h.below (below_drewN (Below.refl _ _) q)
theorem Pm.apart {S : Nat → Prop} (h : Pm w W c n G B) (ho : Only S w w') (hS : ∀ g, B g → ¬ S g) : Pm w' W c n G B := by
  obtain ⟨mb, PF, h, rfl⟩ := h; exact ⟨mb, PF, h.apart ho hS, rfl⟩
theorem Pm.lt (h : Pm w W c n G B) {g : Nat} (hg : B g) : W ≤ g ∧ g < w.heap.size := by
  obtain ⟨mb, PF, h, rfl⟩ := h
  obtain ⟨o, hb⟩ := h.blk
  obtain ⟨N, hN⟩ := h.pm
  rcases hg with rfl | rfl | ⟨k, v, hk, hg⟩
  · exact ⟨h.lo.1, hb.lt⟩
  · exact ⟨h.lo.2.1, hN.lt⟩
  · exact (h.row k v hk).lt g hg
theorem Pm.bytes (h : Pm w W c n G B) (k : Int) (j : Nat) : G k j < 256 := by
  obtain ⟨mb, PF, h, rfl⟩ := h; exact h.byt k j
theorem PmTo.bel {w0 : World} (h : PmTo w w' W c n G' B) (hb : Below w0.heap.size w0 w) (h0 : Pm w W c n G B) (hW : w0.heap.size ≤ W) : Below w0.heap.size w0 w' := by
  obtain ⟨B', _, h2, _⟩ := h
  exact hb.trans (h2.to_below (fun k hk => by have := (h0.lt hk).1; omega) hb.size)
theorem zeroS (w : World) : (zeroValue 30).run Try.prog w = .ok (.slice none 0 0) w := by kernel_rfl

theorem pnew (n : Nat) (hn : 1 ≤ n ∧ n ≤ 1048576) (w : World) : Calls Try.prog 24 #[.int .i64 n] w fun e w' => e = .returned (.tuple #[.pointer (some ⟨w.heap.size + 1, 0, none⟩), .int .i64 0]) ∧ (∃ B, Pm w' w.heap.size (w.heap.size + 1) n (fun _ _ => 0) B) ∧ Below w.heap.size w w' := by
  have hmm := @run_makeMap Try.prog
  have g1 : decide ((n : Int) < 1) = false := by simp; omega
  have g2 : decide ((n : Int) > 1048576) = false := by simp; omega
  have g2' : decide ((1048576 : Int) < (n : Int)) = false := by simp; omega
  have g2'' : decide (1048576 < n) = false := by simp; omega
  go_enter Try.func24, Try.ntmps24
  go_wp2
  go_ret2
  refine ⟨rfl, ⟨_, w.heap.size, fun _ => none, ⟨⟨0, by have := Blk.new (w.alloc (.map #[] 0)) 68 #[.int .i64 n, .map (some w.heap.size), .int .i64 0]; simpa using this⟩, ⟨0, (KMap.new w _ _ kiK).alloc _⟩, fun k v h => (by cases h), fun _ _ _ => rfl, fun _ _ => by decide, ⟨Nat.le_succ _, Nat.le_refl _, by omega⟩, fun k v h => (by cases h)⟩, rfl⟩, ((Below.refl _ _).alloc (Nat.le_refl _) _).alloc (by simp) _⟩

/-- A page in memory: block b holds the bytes g. -/
def Pg (w : World) (b : Nat) (g : Nat → Nat) : Prop := b < w.heap.size ∧ ∀ j, j < 4096 → w.cell? ⟨b, j, none⟩ = some (.int .u8 (g j : Int))
theorem Pg.below {w w' : World} {b : Nat} {g : Nat → Nat} (h : Pg w b g) (hb : Below w.heap.size w w') : Pg w' b g := ⟨Nat.lt_of_lt_of_le h.1 hb.size, fun j hj => (hb.cell (p := ⟨b, j, none⟩) h.1).trans (h.2 j hj)⟩
theorem Pg.of_own {w : World} {B b n cap : Nat} {g : Nat → Nat} (h : w.ownsRow B 5 1 (.slice (some ⟨b, 0, none⟩) n cap) 4096 (byL g 4096)) : Pg w b g :=
  ⟨(h.lt b rfl).2, fun j hj => by
    obtain ⟨g', cap', e, _, _⟩ := h.form (by omega)
    injection e with e1 e2 e3
    subst e2 e3
    exact (h.cellAt j (by omega)).trans (byL_get hj)⟩
theorem Pg.reads {w : World} {b : Nat} {g : Nat → Nat} (h : Pg w b g) : Reads w w.heap.size 1 (some ⟨b, 0, none⟩) 4096 (byL g 4096) := by
  refine ⟨by rw [byL_len], fun _ => ⟨_, rfl, h.1, fun j u hj => ?_⟩⟩
  have hjl := (List.getElem?_eq_some_iff.1 hj).1
  rw [byL_len] at hjl
  rw [byL_get hjl] at hj
  cases hj
  have := h.2 j hjl
  unfold Addr.add
  by_cases e : j = 0
  · subst e; exact this
  · rw [if_neg e, Nat.zero_add]; exact this
/-- Bytes are told. -/
def PgIs (w : World) (g : Nat → Nat) (e : Ending) (w' : World) : Prop := ∃ (b cc : Nat), e = .returned (.slice (some ⟨b, 0, none⟩) 4096 cc) ∧ Pg w' b g ∧ Below w.heap.size w w'
set_option maxRecDepth 100000 in
set_option maxHeartbeats 2000000 in
theorem ppage (h : Ph w W c mb n PF G) (k : Int) (hk : (Lit.int .i64 k).wf = true) :
    Calls Try.prog 28 #[.pointer (some ⟨c, 0, none⟩), .int .i64 k] w (PgIs w (G k)) := by
  obtain ⟨o, hb⟩ := h.blk
  obtain ⟨N, hN⟩ := h.pm
  have c1 := (hb.cell 1).trans rfl
  have hlk := hN.look true (t := 66) Try.underlying66 (zeroS w) ⟨k, hk⟩
  have hlk : (Instr.lookup 66 (.map (some mb)) (.int .i64 k) true).run Try.prog w = _ := hlk
  have HH := Lib.hid h
  clear h hb hN
  cases hp : PF ⟨k, hk⟩ with
  | none =>
    rw [hp] at hlk
    have hlk : (Instr.lookup 66 (.map (some mb)) (.int .i64 k) true).run Try.prog w = .ok (.tuple #[.slice none 0 0, .bool false]) w := hlk
    have HZ := Lib.hid (HH.out.zer _ hp)
    obtain ⟨i0, hi0, hz0', hz1, hz2⟩ := info_parts infoY
    obtain ⟨w2, hmk, hown, hg⟩ := run_makeSlice_full (P := Try.prog) w w.heap.size 30 5 i0 (.int .u8 0) 1 Try.underlying30 hi0 hz0' hz1 .i64 .i64 4096 (by omega) (by rw [hz2]; omega) (by unfold maxLen; omega) (Nat.le_refl _)
    rw [made_row _ rfl, byL_zero] at hown
    have hmk : (Instr.makeSlice 30 (.int .i64 4096) (.int .i64 4096)).run Try.prog w = .ok (.slice (some ⟨w.heap.size, 0, none⟩) 4096 4096) w2 := hmk
    have HO := Lib.hid hown
    have HB := Lib.hid (show Below w.heap.size w w2 from (Below.refl _ w).grown hg (Nat.le_refl _) (fun _ e => by cases e))
    clear hown hg hp
    go_enter Try.func28, Try.ntmps28
    go_wp2
    go_ret
    refine ⟨_, _, rfl, ?_, HB.out⟩
    have h9 := HO.out
    rw [← byL_congr (g := G k) (g' := fun _ => 0) fun j _ => HZ.out j] at h9
    exact Pg.of_own h9
  | some v =>
    rw [hp] at hlk
    have hlk : (Instr.lookup 66 (.map (some mb)) (.int .i64 k) true).run Try.prog w = .ok (.tuple #[v, .bool true]) w := hlk
    have hrow := HH.out.row _ v hp
    obtain ⟨g, cap, rfl, _, _⟩ := hrow.form (by omega)
    have HO := Lib.hid hrow
    clear hrow hp
    go_enter Try.func28, Try.ntmps28
    go_wp2
    go_ret
    exact ⟨_, _, rfl, Pg.of_own HO.out, Below.refl _ _⟩
end
end Go.Proofs.Ytkpngkdkkcadfaa
