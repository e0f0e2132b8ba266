/- The plain law of the statement HostOnce: a table of truth values, and what the steps do to it. -/
import Derived.Test.YtephgikeofkblaaH21a
import Derived.Test.YtephgikeofkblaaOps
namespace Go.Proofs.Ytephgikeofkblaa
open Go.RowKit Mf

/-- A table of 101 truth values, as cells. -/
def boolA (on : Nat → Bool) : Array Value := ((List.range 101).map fun i => Value.bool (on i)).toArray
def upd (on : Nat → Bool) (j : Nat) (v : Bool) : Nat → Bool := fun i => if i = j then v else on i

theorem boolA_get (on : Nat → Bool) {j : Nat} (h : j < 101) : (boolA on)[j]? = some (.bool (on j)) := by
  unfold boolA
  rw [List.getElem?_toArray, List.getElem?_map, List.getElem?_range h]; rfl

theorem boolA_set (on : Nat → Bool) {j : Nat} (_ : j < 101) (v : Bool) : (boolA on).setIfInBounds j (.bool v) = boolA (upd on j v) := by
  unfold boolA
  rw [List.setIfInBounds_toArray]
  congr 1
  apply List.ext_getElem?
  intro i
  rw [List.getElem?_set, List.getElem?_map, List.getElem?_map, List.length_map, List.length_range]
  unfold upd
  by_cases hi : j = i
  · subst hi
    rw [if_pos rfl]
    by_cases h1 : j < 101
    · rw [if_pos h1, List.getElem?_range h1]; simp
    · rw [if_neg h1, List.getElem?_eq_none (by simp; omega)]; rfl
  · rw [if_neg hi]
    cases h2 : (List.range 101)[i]? with
    | none => rfl
    | some z =>
      have h3 := (List.getElem?_eq_some_iff.1 h2)
      obtain ⟨h4, h5⟩ := h3
      rw [List.getElem_range] at h5
      subst h5
      simp [Ne.symm hi]

/-- The tables tell what the book has. -/
def Agree (f : Int → Option Pg) (on lent : Nat → Bool) : Prop := ∀ j : Nat, on j = (f j).isSome ∧ lent j = (pgAt f j).lent
def Rng (f : Int → Option Pg) (la : Nat) : Prop := ∀ k, (f k).isSome = true → 1 ≤ k ∧ k ≤ la

theorem agree_zero : Agree (fun _ => none) (fun _ => false) (fun _ => false) := fun _ => ⟨rfl, rfl⟩
theorem rng_zero : Rng (fun _ => none) 0 := fun _ h => by cases h

theorem agree_upd {f f' : Int → Option Pg} {on on' lent lent' : Nat → Bool} {h : Nat} (hA : Agree f on lent) (hf : ∀ k, k ≠ (h : Int) → f' k = f k) (ho : ∀ j, j ≠ h → on' j = on j) (hl : ∀ j, j ≠ h → lent' j = lent j) (h1 : on' h = (f' h).isSome) (h2 : lent' h = (pgAt f' h).lent) : Agree f' on' lent' := by
  intro j
  by_cases hj : j = h
  · subst hj; exact ⟨h1, h2⟩
  · have e := hf j (by omega)
    unfold pgAt
    rw [ho j hj, hl j hj, e]
    exact hA j

theorem agree_add {f : Int → Option Pg} {on lent : Nat → Bool} {la : Nat} (h : Agree f on lent) (hr : Rng f la) (fr : Int) : Agree (setF f ((la : Int) + 1) ⟨fr, false, 0, 0⟩) (upd on (la + 1) true) lent := by
  have e : f ((la + 1 : Nat) : Int) = none := by
    cases hf : f ((la + 1 : Nat) : Int) with
    | none => rfl
    | some x => have := hr ((la + 1 : Nat) : Int) (by rw [hf]; rfl); omega
  have es : setF f ((la : Int) + 1) ⟨fr, false, 0, 0⟩ ((la + 1 : Nat) : Int) = some ⟨fr, false, 0, 0⟩ := by unfold setF; rw [if_pos (by omega)]
  refine agree_upd (h := la + 1) h (fun k hk => by unfold setF; rw [if_neg (by omega)]) (fun j hj => by unfold upd; rw [if_neg hj]) (fun _ _ => rfl) ?_ ?_
  · rw [es]; unfold upd; rw [if_pos rfl]; rfl
  · have h2 := (h (la + 1)).2
    unfold pgAt at h2 ⊢
    rw [e] at h2
    rw [es, h2]; rfl

theorem rng_add {f : Int → Option Pg} {la : Nat} (hr : Rng f la) (x : Pg) : Rng (setF f ((la : Int) + 1) x) (la + 1) := by
  intro k hk
  unfold setF at hk
  by_cases hj : k = (la : Int) + 1
  · omega
  · rw [if_neg hj] at hk
    have := hr k hk
    omega

theorem rng_sub {f f' : Int → Option Pg} {la : Nat} (hr : Rng f la) (hf : ∀ k, (f' k).isSome = true → (f k).isSome = true) : Rng f' la := fun k hk => hr k (hf k hk)

theorem upd_same (on : Nat → Bool) (j : Nat) (v : Bool) : upd on j v j = v := if_pos rfl
theorem upd_ne (on : Nat → Bool) {i j : Nat} (v : Bool) (h : i ≠ j) : upd on j v i = on i := if_neg h
theorem upd_id (on : Nat → Bool) (j : Nat) : upd on j (on j) = on := by
  funext i; unfold upd
  by_cases h : i = j
  · subst h; rw [if_pos rfl]
  · rw [if_neg h]

/-- How many pages there are up to q. -/
def cntU (f : Int → Option Pg) (q : Nat) : Nat := ((UE q).filter fun i => (f i).isSome).length

theorem cntU_succ (f : Int → Option Pg) (q : Nat) : cntU f (q + 1) = cntU f q + (if (f ((q : Int) + 1)).isSome then 1 else 0) := by
  unfold cntU UE
  rw [List.range_succ, List.map_append, List.filter_append, List.length_append]
  congr 1
  cases h : f ((q : Int) + 1) <;> simp [h]

theorem cntU_le (f : Int → Option Pg) (q : Nat) : cntU f q ≤ q := by
  have := List.length_filter_le (fun i => (f i).isSome) (UE q)
  rw [UE_len] at this
  exact this
end Go.Proofs.Ytephgikeofkblaa
