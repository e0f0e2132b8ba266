/- What the functions of package ledger do with a ledger in memory: contracts of New, Get, find. -/
import Derived.Test.YtibklcjjdnhkdaaRows
import Derived.Test.YtibklcjjdnhkdaaMem
import Derived.Test.YtibklcjjdnhkdaaMapf
import Derived.WalkKit
import Derived.WalkSpells
import Derived.WalkLawsBesides
import Derived.Lib.Hide
namespace Go.Proofs.Ytibklcjjdnhkdaa
open Go.RowKit Mf

/-- An int's number. -/
def num? : Value → Option Int
  | .int .i64 n => some n
  | _ => none
theorem num?_inv {v : Value} {n : Int} (h : num? v = some n) : v = .int .i64 n := by
  unfold num? at h
  split at h
  · cases h; rfl
  · cases h

/-- An entry's two numbers. -/
def two? : List Value → Option (DataW Unit × List MemPlace)
  | [a, b] => (num? a).bind fun s => (num? b).bind fun p => some (.agg [.lit (.int .i64 s), .lit (.int .i64 p)], [])
  | _ => none
def ent? : Value → Option (DataW Unit × List MemPlace)
  | .agg cs => two? cs.toList
  | _ => none
theorem ent?_inv {v : Value} {y : DataW Unit × List MemPlace} (h : ent? v = some y) : ∃ s p : Int, v = .agg #[.int .i64 s, .int .i64 p] ∧ y = (.agg [.lit (.int .i64 s), .lit (.int .i64 p)], []) := by
  unfold ent? at h
  split at h
  · rename_i cs
    unfold two? at h
    split at h
    · rename_i a b hl
      cases ha : num? a with
      | none => rw [ha] at h; cases h
      | some s =>
        cases hb : num? b with
        | none => rw [ha, hb] at h; cases h
        | some p =>
          rw [ha, hb] at h
          refine ⟨s, p, ?_, ?_⟩
          · rw [← num?_inv ha, ← num?_inv hb]
            congr 1
            rw [← Array.toArray_toList (xs := cs), hl]
          · cases h; rfl
    · cases h
  · cases h

/-- An entry: state and party. -/
def entC : Enc (Int × Int) where
  val := fun e => .agg #[.int .i64 e.1, .int .i64 e.2]
  dat := fun e => .agg [.lit (.int .i64 e.1), .lit (.int .i64 e.2)]
  rd := ent?
  rd_val := fun _ => rfl
  rd_inv := fun v y h => by
    obtain ⟨s, p, h1, h2⟩ := ent?_inv h
    exact ⟨(s, p), h1, h2⟩
  inj := fun e e' h => by
    injection h with h
    injection h with h1 h2
    injection h2 with h2 _
    injection h1 with h1
    injection h2 with h2
    injection h1 with _ h1
    injection h2 with _ h2
    exact Prod.ext h1 h2

abbrev LMap := MapF Try.prog 3 .i64 entC

theorem keyed3 : Go.Maps.Keyed Try.prog 3 := Go.Maps.int_keyed Try.underlying3
theorem zeroE (w : World) : (zeroValue 36).run Try.prog w = .ok (.agg #[.int .i64 0, .int .i64 0]) w := by kernel_rfl

/-- A ledger in memory. -/
structure LedAt (w : World) (b mb N : Nat) (n : Int) (f : Int → Option (Int × Int)) : Prop where
  c0 : w.cell? ⟨b, 0, none⟩ = some (.int .i64 n)
  c1 : w.cell? ⟨b, 1, none⟩ = some (.map (some mb))
  m : LMap w mb N f
  lt : b < w.heap.size

theorem LedAt.below {w w' : World} {b mb N : Nat} {n : Int} {f : Int → Option (Int × Int)} (h : LedAt w b mb N n f) (hb : Below w.heap.size w w') : LedAt w' b mb N n f :=
  ⟨(hb.cell (p := ⟨b, 0, none⟩) h.lt).trans h.c0, (hb.cell (p := ⟨b, 1, none⟩) h.lt).trans h.c1, h.m.below hb h.m.lt, Nat.lt_of_lt_of_le h.lt hb.size⟩

set_option maxHeartbeats 400000 in
theorem new_ok (n : Int) (w : World) (h1 : 1 ≤ n) (h2 : n ≤ 1048576) :
    Calls Try.prog 8 #[.int .i64 n] w fun e w' => e = .returned (.tuple #[.pointer (some ⟨w.heap.size + 1, 0, none⟩), .int .i64 0]) ∧ LedAt w' (w.heap.size + 1) w.heap.size 0 n (fun _ => none) ∧ Below w.heap.size w w' := by
  have hmm := @run_makeMap Try.prog
  go_enter Try.func8, Try.ntmps8
  go_wp2
  go_ret2
  exact ⟨rfl, ⟨World.cell?_alloc_at _ _ _ _ (by simp), World.cell?_alloc_at _ _ _ _ (by simp), (MapF.new w _ _ _ entC).alloc _, by simp⟩, ((Below.refl _ _).alloc (Nat.le_refl _) _).alloc (by simp) _⟩

set_option maxHeartbeats 400000 in
theorem new_no (n : Int) (w : World) (h : n < 1 ∨ 1048576 < n) :
    Calls Try.prog 8 #[.int .i64 n] w fun e w' => e = .returned (.tuple #[.pointer none, .int .i64 1]) ∧ w = w' := by
  rcases h with h | h
  · go_enter Try.func8, Try.ntmps8
    go_wp2
    go_ret2
    exact ⟨rfl, rfl⟩
  · have h' : ¬ n < 1 := by omega
    go_enter Try.func8, Try.ntmps8
    go_wp2
    go_ret2
    exact ⟨rfl, rfl⟩

/-- A frame's entry. -/
def ent (f : Int → Option (Int × Int)) (k : Int) : Int × Int := (f k).getD (0, 0)

theorem LedAt.look {w : World} {b mb N : Nat} {n : Int} {f : Int → Option (Int × Int)} (h : LedAt w b mb N n f) {k : Int} (hw : (Lit.int .i64 k).wf = true) :
    (Instr.lookup 45 (.map (some mb)) (.int .i64 k) false).run Try.prog w = .ok (.agg #[.int .i64 (ent f k).1, .int .i64 (ent f k).2]) w := by
  have e := h.m.look false keyed3 Try.underlying3 (t := 45) Try.underlying45 (zeroE w) hw
  rw [e]
  unfold ent
  cases f k with
  | none => rfl
  | some x => rfl

theorem LedAt.look_ok {w : World} {b mb N : Nat} {n : Int} {f : Int → Option (Int × Int)} (h : LedAt w b mb N n f) {k : Int} (hw : (Lit.int .i64 k).wf = true) :
    (Instr.lookup 45 (.map (some mb)) (.int .i64 k) true).run Try.prog w = .ok (.tuple #[.agg #[.int .i64 (ent f k).1, .int .i64 (ent f k).2], .bool (f k).isSome]) w := by
  have e := h.m.look true keyed3 Try.underlying3 (t := 45) Try.underlying45 (zeroE w) hw
  rw [e]
  unfold ent
  cases f k with
  | none => rfl
  | some x => rfl

set_option maxHeartbeats 400000 in
theorem get_any (b mb N : Nat) (n : Int) (f : Int → Option (Int × Int)) (k : Int) (w : World) (h : LedAt w b mb N n f) (hw : (Lit.int .i64 k).wf = true) :
    Calls Try.prog 14 #[.pointer (some ⟨b, 0, none⟩), .int .i64 k] w fun e w' => e = .returned (.agg #[.int .i64 (ent f k).1, .int .i64 (ent f k).2]) ∧ Below w.heap.size w w' := by
  have hl := (h.below ((Below.refl w.heap.size w).alloc (Nat.le_refl _) (.cells #[.int .i64 0, .int .i64 0] 36))).look hw
  have c0 := h.c0
  have c1 := h.c1
  have hlt := h.lt
  clear h
  go_enter Try.func14, Try.ntmps14
  go_wp2
  exact bodyPost_ret (v := .agg #[.int .i64 (ent f k).1, .int .i64 (ent f k).2]) (by simp [results, Try.results14, go_sem]) rfl ⟨rfl, (Below.refl _ _).alloc (Nat.le_refl _) _⟩

end Go.Proofs.Ytibklcjjdnhkdaa
