/- What the functions of package host do with a book in memory: contracts of New, Add, Frame, Lend, Lent, Back, Drop. -/
import Derived.Test.YtephgikeofkblaaRows
import Derived.Test.YtephgikeofkblaaOnly
import Derived.WalkKit
import Derived.WalkSpells
import Derived.WalkLawsBesides
import Derived.RegionTactic
import Derived.Lib.Hide
namespace Go.Proofs.Ytephgikeofkblaa
open Go.RowKit Mf

/-- A page: its frame, whether it is lent, the place. -/
structure Pg where
  fr : Int
  lent : Bool
  g : Int
  p : Int

def pg? : Value → Option (DataW Unit × List MemPlace)
  | .agg ⟨[.int .i64 a, .bool l, .int .i64 g, .int .u64 p]⟩ => some (.agg [.lit (.int .i64 a), .lit (.bool l), .lit (.int .i64 g), .lit (.int .u64 p)], [])
  | _ => none

def pgC : Enc Pg where
  val := fun x => .agg #[.int .i64 x.fr, .bool x.lent, .int .i64 x.g, .int .u64 x.p]
  dat := fun x => .agg [.lit (.int .i64 x.fr), .lit (.bool x.lent), .lit (.int .i64 x.g), .lit (.int .u64 x.p)]
  rd := pg?
  rd_val := fun _ => rfl
  rd_inv := fun v y h => by
    unfold pg? at h
    split at h
    · rename_i a l g p
      cases h
      exact ⟨⟨a, l, g, p⟩, rfl, rfl⟩
    · cases h
  inj := fun e e' h => by
    obtain ⟨a, l, g, p⟩ := e
    obtain ⟨a', l', g', p'⟩ := e'
    simp at h
    obtain ⟨rfl, rfl, rfl, rfl⟩ := h
    rfl

abbrev PMap := MapF Try.prog 3 .i64 pgC

theorem keyed3 : Go.Maps.Keyed Try.prog 3 := Go.Maps.int_keyed Try.underlying3
theorem zeroP (w : World) : (zeroValue 56).run Try.prog w = .ok (.agg #[.int .i64 0, .bool false, .int .i64 0, .int .u64 0]) w := by kernel_rfl

/-- A book in memory. -/
structure BookAt (w : World) (b mb N : Nat) (last : Int) (f : Int → Option Pg) : Prop where
  blk : Blk w b 54 #[.map (some mb), .int .i64 last]
  m : PMap w mb N f

section
variable {w w' : World} {b mb N : Nat} {last : Int} {f : Int → Option Pg} {S : Nat → Prop}
theorem BookAt.ne (h : BookAt w b mb N last f) : b ≠ mb := h.blk.not_map h.m
theorem BookAt.only (h : BookAt w b mb N last f) (ho : Only S w w') (hb : ¬ S b) (hmb : ¬ S mb) : BookAt w' b mb N last f := ⟨h.blk.only ho hb, h.m.only ho hmb⟩
theorem BookAt.below (h : BookAt w b mb N last f) (hb : Below w.heap.size w w') : BookAt w' b mb N last f := ⟨h.blk.below hb h.blk.lt, h.m.below hb h.m.lt⟩
theorem BookAt.c0 (h : BookAt w b mb N last f) : w.cell? ⟨b, 0, none⟩ = some (.map (some mb)) := (h.blk.cell 0).trans rfl
theorem BookAt.c1 (h : BookAt w b mb N last f) : w.cell? ⟨b, 1, none⟩ = some (.int .i64 last) := (h.blk.cell 1).trans rfl
theorem BookAt.mono (h : BookAt w b mb N last f) {N' : Nat} (hN : N ≤ N') : BookAt w b mb N' last f := ⟨h.blk, h.m.mono hN⟩

/-- A page's value, nought where there is none. -/
def pgAt (f : Int → Option Pg) (k : Int) : Pg := (f k).getD ⟨0, false, 0, 0⟩

theorem BookAt.look (h : BookAt w b mb N last f) {k : Int} (hw : (Lit.int .i64 k).wf = true) :
    (Instr.lookup 52 (.map (some mb)) (.int .i64 k) false).run Try.prog w = .ok (.agg #[.int .i64 (pgAt f k).fr, .bool (pgAt f k).lent, .int .i64 (pgAt f k).g, .int .u64 (pgAt f k).p]) w := by
  rw [h.m.look false keyed3 Try.underlying3 (t := 52) Try.underlying52 (zeroP w) hw]
  unfold pgAt
  cases f k with
  | none => rfl
  | some x => rfl

theorem BookAt.look_ok (h : BookAt w b mb N last f) {k : Int} (hw : (Lit.int .i64 k).wf = true) :
    (Instr.lookup 52 (.map (some mb)) (.int .i64 k) true).run Try.prog w = .ok (.tuple #[.agg #[.int .i64 (pgAt f k).fr, .bool (pgAt f k).lent, .int .i64 (pgAt f k).g, .int .u64 (pgAt f k).p], .bool (f k).isSome]) w := by
  rw [h.m.look true keyed3 Try.underlying3 (t := 52) Try.underlying52 (zeroP w) hw]
  unfold pgAt
  cases f k with
  | none => rfl
  | some x => rfl

/-- One page set. -/
def setF (f : Int → Option Pg) (k : Int) (x : Pg) : Int → Option Pg := fun j => if j = k then some x else f j
def delF (f : Int → Option Pg) (k : Int) : Int → Option Pg := fun j => if j = k then none else f j

theorem BookAt.store (h : BookAt w b mb N last f) {k : Int} (hw : (Lit.int .i64 k).wf = true) (hN : N < maxLen) (a : Int) (l : Bool) (g p : Int) :
    ∃ w', (Instr.mapUpdate 52 (.map (some mb)) (.int .i64 k) (.agg #[.int .i64 a, .bool l, .int .i64 g, .int .u64 p])).run Try.prog w = .ok () w' ∧ BookAt w' b mb (N + 1) last (setF f k ⟨a, l, g, p⟩) ∧ Only (· = mb) w w' := by
  obtain ⟨w', hr, hm, ht⟩ := h.m.store keyed3 Try.underlying3 (t := 52) Try.underlying52 hN hw ⟨a, l, g, p⟩
  have ho : Only (· = mb) w w' := (Only.refl _ w).turned ht (.inl rfl)
  exact ⟨w', hr, ⟨h.blk.only ho h.ne, hm⟩, ho⟩

theorem BookAt.drop (h : BookAt w b mb N last f) {k : Int} (hw : (Lit.int .i64 k).wf = true) (ty : TypeId) :
    ∃ w', (Builtin.delete_ #[52, 3] ty #[.map (some mb), .int .i64 k]).run Try.prog w = .ok (.tuple #[]) w' ∧ BookAt w' b mb N last (delF f k) ∧ Only (· = mb) w w' := by
  obtain ⟨w', hr, hm, ht⟩ := h.m.drop keyed3 Try.underlying3 (t := 52) Try.underlying52 hw ty
  have ho : Only (· = mb) w w' := (Only.refl _ w).turned ht (.inl rfl)
  exact ⟨w', hr, ⟨h.blk.only ho h.ne, hm⟩, ho⟩
end

set_option maxHeartbeats 400000 in
theorem new_any (w : World) : Calls Try.prog 6 #[] w fun e w' => e = .returned (.pointer (some ⟨w.heap.size + 1, 0, none⟩)) ∧ BookAt w' (w.heap.size + 1) w.heap.size 0 0 (fun _ => none) ∧ Below w.heap.size w w' := by
  have hmm := @run_makeMap Try.prog
  go_enter Try.func6, Try.ntmps6
  go_wp2
  go_ret
  exact ⟨rfl, ⟨by have := Blk.new (w.alloc (.map #[] 0)) 54 #[.map (some w.heap.size), .int .i64 0]; simpa using this, (MapF.new w _ _ _ pgC).alloc _⟩, ((Below.refl _ _).alloc (Nat.le_refl _) _).alloc (by simp) _⟩

/-- What Frame tells. -/
def frameS (f : Int → Option Pg) (k : Int) : Int × Int := match f k with | some x => (x.fr, 0) | none => (0, 23)

set_option maxHeartbeats 400000 in
theorem frame_any (b mb N : Nat) (last : Int) (f : Int → Option Pg) (k : Int) (w : World) (h : BookAt w b mb N last f) (hw : (Lit.int .i64 k).wf = true) :
    Calls Try.prog 15 #[.pointer (some ⟨b, 0, none⟩), .int .i64 k] w fun e w' => e = .returned (.tuple #[.int .i64 (frameS f k).1, .int .i64 (frameS f k).2]) ∧ Below w.heap.size w w' := by
  have hl := h.look_ok hw
  have c0 := h.c0
  clear h
  unfold frameS pgAt at *
  cases hf : f k with
  | none =>
    rw [hf] at hl
    clear hf
    go_enter Try.func15, Try.ntmps15
    go_wp2
    go_ret2
    exact ⟨rfl, (Below.refl _ _).alloc (Nat.le_refl _) _⟩
  | some x =>
    rw [hf] at hl
    clear hf
    obtain ⟨a, l, g, p⟩ := x
    simp only [Option.getD, Option.isSome] at hl
    go_enter Try.func15, Try.ntmps15
    go_wp2
    go_ret2
    exact ⟨rfl, (Below.refl _ _).alloc (Nat.le_refl _) _⟩
end Go.Proofs.Ytephgikeofkblaa
