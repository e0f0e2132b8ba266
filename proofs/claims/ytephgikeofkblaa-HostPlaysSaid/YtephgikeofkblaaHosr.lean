/- What package demesneref21 does with its book in memory: contracts of at, Frame, Lent, Add. -/
import Derived.Test.YtephgikeofkblaaHos2
import Derived.Test.YtephgikeofkblaaFlat
namespace Go.Proofs.Ytephgikeofkblaa
open Go.RowKit Mf

/-- A page of the reference. -/
structure RP where
  on : Bool
  fr : Int
  lent : Bool
  g : Int
  p : Int

def rpC (x : RP) : List Value := [.bool x.on, .int .i64 x.fr, .bool x.lent, .int .i64 x.g, .int .u64 x.p]
theorem rpC_len (x : RP) : (rpC x).length = 5 := rfl

/-- The reference's book in memory. -/
structure RefAt (w : World) (rb B : Nat) (v : Value) (ps : List RP) : Prop where
  blk : Blk w rb 28 #[v]
  own : w.ownsRow B 58 5 v ps.length (ps.flatMap rpC)
  lt : rb < B

theorem RefAt.only {w w' : World} {rb B : Nat} {v : Value} {ps : List RP} {S : Nat → Prop} (h : RefAt w rb B v ps) (ho : Only S w w') (h1 : ¬ S rb) (h2 : ∀ k, S k → k < B) : RefAt w' rb B v ps := ⟨h.blk.only ho h1, own_only h.own ho h2, h.lt⟩
theorem RefAt.below {w w' : World} {rb B : Nat} {v : Value} {ps : List RP} (h : RefAt w rb B v ps) (hb : Below w.heap.size w w') : RefAt w' rb B v ps := ⟨h.blk.below hb h.blk.lt, own_below h.own hb, h.lt⟩
theorem RefAt.c0 {w : World} {rb B : Nat} {v : Value} {ps : List RP} (h : RefAt w rb B v ps) : w.cell? ⟨rb, 0, none⟩ = some v := (h.blk.cell 0).trans rfl

/-- The reference's pages as a function. -/
def pgOf (x : RP) : Option Pg := if x.on then some ⟨x.fr, x.lent, x.g, x.p⟩ else none
def rf (ps : List RP) (k : Int) : Option Pg := if 1 ≤ k then (ps[(k - 1).toNat]?).bind pgOf else none

theorem rf_at (ps : List RP) {i : Nat} {k : Int} (hk : k = (i : Int) + 1) : rf ps k = (ps[i]?).bind pgOf := by
  unfold rf
  rw [if_pos (by omega), show (k - 1).toNat = i from by omega]

theorem rf_low (ps : List RP) {k : Int} (hk : k < 1) : rf ps k = none := if_neg (by omega)

theorem rf_set {ps : List RP} {i : Nat} (hi : i < ps.length) (x : RP) (k : Int) : rf (ps.set i x) k = if k = (i : Int) + 1 then pgOf x else rf ps k := by
  by_cases hk : k = (i : Int) + 1
  · rw [if_pos hk, rf_at _ hk, List.getElem?_set, if_pos rfl, if_pos hi]; rfl
  · rw [if_neg hk]
    unfold rf
    by_cases h1 : 1 ≤ k
    · rw [if_pos h1, if_pos h1, List.getElem?_set, if_neg (by omega)]
    · rw [if_neg h1, if_neg h1]

theorem rf_add (ps : List RP) (x : RP) (k : Int) : rf (ps ++ [x]) k = if k = (ps.length : Int) + 1 then pgOf x else rf ps k := by
  by_cases hk : k = (ps.length : Int) + 1
  · rw [if_pos hk, rf_at _ hk, List.getElem?_append_right (Nat.le_refl _), Nat.sub_self]; rfl
  · rw [if_neg hk]
    unfold rf
    by_cases h1 : 1 ≤ k
    · rw [if_pos h1, if_pos h1]
      by_cases h2 : (k - 1).toNat < ps.length
      · rw [List.getElem?_append_left h2]
      · rw [List.getElem?_eq_none (by rw [List.length_append]; simp; omega), List.getElem?_eq_none (by omega)]
    · rw [if_neg h1, if_neg h1]

theorem rf_cases (ps : List RP) (k : Int) : (k < 1 ∧ rf ps k = none) ∨ (∃ i : Nat, k = (i : Int) + 1 ∧ ps.length ≤ i ∧ rf ps k = none) ∨ (∃ (i : Nat) (x : RP), k = (i : Int) + 1 ∧ ps[i]? = some x ∧ x.on = false ∧ rf ps k = none) ∨ ∃ (i : Nat) (x : RP), k = (i : Int) + 1 ∧ ps[i]? = some x ∧ x.on = true ∧ rf ps k = some ⟨x.fr, x.lent, x.g, x.p⟩ := by
  by_cases h1 : k < 1
  · exact .inl ⟨h1, rf_low ps h1⟩
  · have hk : k = ((k - 1).toNat : Int) + 1 := by omega
    cases hx : ps[(k - 1).toNat]? with
    | none => exact .inr (.inl ⟨_, hk, List.getElem?_eq_none_iff.1 hx, by rw [rf_at ps hk, hx]; rfl⟩)
    | some x =>
      cases ho : x.on with
      | false => exact .inr (.inr (.inl ⟨_, x, hk, hx, ho, by rw [rf_at ps hk, hx]; show pgOf x = none; unfold pgOf; rw [ho]; rfl⟩))
      | true => exact .inr (.inr (.inr ⟨_, x, hk, hx, ho, by rw [rf_at ps hk, hx]; show pgOf x = _; unfold pgOf; rw [ho]; rfl⟩))

theorem own_any_slice {w : World} {base size n : Nat} {e : TypeId} {v : Value} {xs : List Value} (h : w.ownsRow base e size v n xs) : (v = .slice none 0 0 ∧ n = 0) ∨ ∃ g c, v = .slice (some ⟨g, 0, none⟩) n c ∧ base ≤ g := by
  rcases h.2 with ⟨rfl, rfl⟩ | ⟨g, cap, cur, rfl, hg, _⟩
  · exact .inl ⟨rfl, rfl⟩
  · exact .inr ⟨g, cap, rfl, hg⟩

set_option maxHeartbeats 1000000 in
theorem at_none (rb B : Nat) (v : Value) (ps : List RP) (k : Int) (w : World) (h : RefAt w rb B v ps) (hk : rf ps k = none) (hlen : ps.length ≤ 1000000) (hk64 : -9223372036854775808 ≤ k ∧ k ≤ 9223372036854775807) :
    Calls Try.prog 23 #[.pointer (some ⟨rb, 0, none⟩), .int .i64 k] w fun e w' => e = .returned (.pointer none) ∧ w = w' := by
  have c0 := h.c0
  have hw := own_any_slice h.own
  rcases rf_cases ps k with ⟨h1, _⟩ | ⟨i, hi, hl, _⟩ | ⟨i, x, hi, hx, hon, _⟩ | ⟨i, x, _, _, _, h5⟩
  · clear hk64
    go_enter Try.func23, Try.ntmps23
    go_wp2
    go_ret
    exact ⟨rfl, rfl⟩
  · have h1 : ¬ k < 1 := by omega
    have hgt : decide ((ps.length : Int) < k) = true := by simp; omega
    have hgt0 : decide (0 < k) = true := by simp; omega
    clear hk64 hi
    rcases hw with ⟨rfl, h0⟩ | ⟨g, c, rfl, _⟩
    · go_enter Try.func23, Try.ntmps23
      go_wp2
      go_ret
      exact ⟨rfl, rfl⟩
    · go_enter Try.func23, Try.ntmps23
      go_wp2
      go_ret
      exact ⟨rfl, rfl⟩
  · have hil : i < ps.length := (List.getElem?_eq_some_iff.1 hx).1
    rcases hw with ⟨rfl, h0⟩ | ⟨g, c, rfl, _⟩
    · omega
    · have h1 : ¬ k < 1 := by omega
      have hgt : decide ((ps.length : Int) < k) = false := by simp; omega
      have hN : (k - 1).toNat = i := by omega
      have b1 : 1 ≤ k := by omega
      have b2 : k - 1 < (ps.length : Int) := by omega
      have b3 : k ≤ (ps.length : Int) := by omega
      have con := own_cell (q := 0) rpC_len h.own hx (by decide)
      rw [show (rpC x)[0]? = some (.bool false) from by rw [← hon]; rfl, Nat.add_zero] at con
      clear hk64 hi hx hil
      go_enter Try.func23, Try.ntmps23
      go_wp2
      go_ret
      exact ⟨rfl, rfl⟩
  · rw [hk] at h5; cases h5

set_option maxHeartbeats 1000000 in
theorem at_some (rb B g c : Nat) (ps : List RP) (k : Int) (i : Nat) (x : RP) (w : World) (h : RefAt w rb B (.slice (some ⟨g, 0, none⟩) ps.length c) ps) (hi : k = (i : Int) + 1) (hx : ps[i]? = some x) (hon : x.on = true) (hlen : ps.length ≤ 1000000) :
    Calls Try.prog 23 #[.pointer (some ⟨rb, 0, none⟩), .int .i64 k] w fun e w' => e = .returned (.pointer (some ⟨g, i * 5, none⟩)) ∧ w = w' := by
  have c0 := h.c0
  have hil : i < ps.length := (List.getElem?_eq_some_iff.1 hx).1
  have h1 : ¬ k < 1 := by omega
  have hgt : decide ((ps.length : Int) < k) = false := by simp; omega
  have hN : (k - 1).toNat = i := by omega
  have b1 : 1 ≤ k := by omega
  have b2 : k - 1 < (ps.length : Int) := by omega
  have b3 : k ≤ (ps.length : Int) := by omega
  have con := own_cell (q := 0) rpC_len h.own hx (by decide)
  rw [show (rpC x)[0]? = some (.bool true) from by rw [← hon]; rfl, Nat.add_zero] at con
  clear hi hx hil
  go_enter Try.func23, Try.ntmps23
  go_wp2
  go_ret
  exact ⟨rfl, rfl⟩
end Go.Proofs.Ytephgikeofkblaa
