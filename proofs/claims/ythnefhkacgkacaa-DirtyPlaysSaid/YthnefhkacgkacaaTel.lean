/- The plain law beneath DirtyTells: which pages are told behind notes and forgettings; bits in memory. -/
import Derived.Test.YthnefhkacgkacaaD19a
import Derived.Test.YthnefhkacgkacaaSrtz
import Derived.Test.YthnefhkacgkacaaQui
import Derived.Test.YthnefhkacgkacaaOps
namespace Go.Proofs.Ythnefhkacgkacaa
open Go.RowKit Mf

/-- Is v forgotten behind its last note, of d steps from k on? -/
def gone (L : Nat → Int) (F : Nat → Bool) (v : Int) (k : Nat) : Nat → Bool
  | 0 => false
  | d + 1 => (if L (k + d) = v then false else gone L F v k d) || (F (k + d) && L ((k + d) / 2) == v)

/-- Is v among d of the L from k on? -/
def seenB (L : Nat → Int) (v : Int) (k : Nat) : Nat → Bool
  | 0 => false
  | d + 1 => seenB L v k d || L (k + d) == v

theorem seenB_iff {L : Nat → Int} {v : Int} {k d : Nat} : seenB L v k d = true ↔ ∃ j, k ≤ j ∧ j < k + d ∧ L j = v := by
  induction d with
  | zero => simp [seenB]; intro j h1 h2; omega
  | succ d ih =>
    unfold seenB
    rw [Bool.or_eq_true, ih, beq_iff_eq]
    constructor
    · rintro (⟨j, h1, h2, h3⟩ | h)
      · exact ⟨j, h1, by omega, h3⟩
      · exact ⟨k + d, by omega, by omega, h⟩
    · rintro ⟨j, h1, h2, h3⟩
      by_cases e : j = k + d
      · subst e; exact .inr h3
      · exact .inl ⟨j, h1, by omega, h3⟩

/-- The pages behind a step. -/
def stp (L : Nat → Int) (F : Nat → Bool) (P : Int → Bool) (i : Nat) : Int → Bool :=
  if F i then fun x => (P x || x == L i) && !(x == L (i / 2)) else fun x => P x || x == L i

/-- What the log has, i steps done, the last Collect ahead of step f. -/
structure Tel (L : Nat → Int) (F : Nat → Bool) (i f : Nat) (P : Int → Bool) : Prop where
  le : f ≤ i
  old : ∀ x, P x = true → ∃ k, f ≤ k ∧ k < i ∧ L k = x
  now : ∀ k, f ≤ k → k < i → P (L k) = !(gone L F (L k) k (i - k))

theorem Tel.start (L : Nat → Int) (F : Nat → Bool) : Tel L F 0 0 (fun _ => false) := ⟨Nat.le_refl _, fun x h => (by cases h), fun k _ h => by omega⟩
theorem Tel.fresh (L : Nat → Int) (F : Nat → Bool) (i : Nat) : Tel L F i i (fun _ => false) := ⟨Nat.le_refl _, fun x h => (by cases h), fun k _ h => by omega⟩

theorem stp_eq (L : Nat → Int) (F : Nat → Bool) (P : Int → Bool) (i : Nat) (x : Int) : stp L F P i x = ((P x || x == L i) && !(F i && x == L (i / 2))) := by
  unfold stp
  cases hF : F i
  · rw [if_neg (by decide)]; simp
  · rw [if_pos rfl]; simp

theorem Tel.step {L : Nat → Int} {F : Nat → Bool} {i f : Nat} {P : Int → Bool} (h : Tel L F i f P) : Tel L F (i + 1) f (stp L F P i) := by
  have hle := h.le
  refine ⟨by omega, fun x hx => ?_, fun k h1 h2 => ?_⟩
  · rw [stp_eq, Bool.and_eq_true, Bool.or_eq_true, beq_iff_eq] at hx
    rcases hx.1 with hp | hp
    · obtain ⟨k, k1, k2, k3⟩ := h.old x hp
      exact ⟨k, k1, by omega, k3⟩
    · exact ⟨i, hle, by omega, hp.symm⟩
  · rw [stp_eq]
    by_cases e : k = i
    · subst e
      rw [show k + 1 - k = 0 + 1 by omega]
      unfold gone
      rw [Nat.add_zero, if_pos rfl, Bool.false_or]
      have e2 : (L k == L (k / 2)) = (L (k / 2) == L k) := by rw [Bool.eq_iff_iff, beq_iff_eq, beq_iff_eq]; exact eq_comm
      rw [e2]; simp
    · rw [h.now k h1 (by omega), show i + 1 - k = (i - k) + 1 by omega]
      rw [show gone L F (L k) k (i - k + 1) = ((if L (k + (i - k)) = L k then false else gone L F (L k) k (i - k)) || (F (k + (i - k)) && L ((k + (i - k)) / 2) == L k)) from rfl, show k + (i - k) = i by omega]
      have e2 : (L k == L (i / 2)) = (L (i / 2) == L k) := by rw [Bool.eq_iff_iff, beq_iff_eq, beq_iff_eq]; exact eq_comm
      rw [e2]
      by_cases e3 : L i = L k
      · rw [if_pos e3, e3]; simp
      · rw [if_neg e3, show (L k == L i) = false from beq_eq_false_iff_ne.2 (fun e => e3 e.symm)]; simp

/-- A forgetting that tells false stands behind the last Collect, but not first. -/
theorem Tel.first {L : Nat → Int} {i f : Nat} {P : Int → Bool} (h1 : f ≤ i / 2) (h2 : i = f) : (P (L (i / 2)) || L (i / 2) == L i) = true := by
  have : i / 2 = i := by omega
  rw [this]; simp

/-- Truth values in memory. -/
theorem bools_of {xs : List Value} (h : ∀ u ∈ xs, ∃ c, u = .bool c) : ∃ bs : List Bool, xs = bs.map Value.bool := by
  induction xs with
  | nil => exact ⟨[], rfl⟩
  | cons x xs ih =>
    obtain ⟨ls, rfl⟩ := ih fun u hu => h u (List.mem_cons_of_mem _ hu)
    obtain ⟨i, rfl⟩ := h _ (List.mem_cons_self ..)
    exact ⟨i :: ls, rfl⟩

theorem bools_of_cells {xs : List Value} (h : ∀ j u k, xs[j]? = some u → ([CK.b])[j % ([CK.b]).length]? = some k → CellOk k u) : ∃ bs : List Bool, xs = bs.map Value.bool := by
  refine bools_of fun u hu => ?_
  obtain ⟨j, hj, rfl⟩ := List.getElem_of_mem hu
  exact h j _ .b (List.getElem?_eq_getElem hj) (by simp [Nat.mod_one])

theorem reads_e {w : World} {B n : Nat} {A : Option Addr} {xs : List Int} (h : Reads w B 1 A n (xs.map (Value.int .u64))) {k : Nat} (hk : k < n) : ∃ ad, A = some ad ∧ w.cell? (ad.add k) = some (.int .u64 (ele xs k)) := by
  obtain ⟨ad, x, e, _, hx, hc⟩ := reads_u h hk
  refine ⟨ad, e, ?_⟩
  rw [hc]
  unfold ele
  rw [List.getD_eq_getElem?_getD, hx]; rfl
theorem reads_e2 {w : World} {B n : Nat} {ad : Addr} {xs : List Int} (h : Reads w B 1 (some ad) n (xs.map (Value.int .u64))) {k : Nat} (hk : k < n) : w.cell? (ad.add k) = some (.int .u64 (ele xs k)) := by
  obtain ⟨ad', e, hc⟩ := reads_e h hk
  cases e; exact hc

def bel (bs : List Bool) (k : Nat) : Bool := bs.getD k false
theorem reads_b {w : World} {B n : Nat} {A : Option Addr} {xs : List Bool} (h : Reads w B 1 A n (xs.map Value.bool)) {k : Nat} (hk : k < n) : ∃ ad, A = some ad ∧ w.cell? (ad.add k) = some (.bool (bel xs k)) := by
  obtain ⟨ad, u, e, _, hx, hc⟩ := h.at_ hk
  refine ⟨ad, e, ?_⟩
  rw [List.getElem?_map] at hx
  rw [hc]
  unfold bel
  rw [List.getD_eq_getElem?_getD]
  cases hx' : xs[k]? with
  | none => rw [hx'] at hx; cases hx
  | some x => rw [hx'] at hx; cases hx; rfl

/-- A slice of words of the call's own reads as its list. -/
theorem own_slice {w : World} {base : Nat} {v : Value} {xs : List Int} (h : w.ownsRow base 29 1 v xs.length (xs.map (Value.int .u64))) : ∃ A c, v = .slice A xs.length c ∧ Reads w w.heap.size 1 A xs.length (xs.map (Value.int .u64)) := by
  rcases h.2 with ⟨rfl, h0⟩ | ⟨g, cap, cur, rfl, _⟩
  · have e : xs = [] := List.eq_nil_of_length_eq_zero h0
    subst e
    exact ⟨none, 0, rfl, Reads.none_⟩
  · exact ⟨_, _, rfl, Reads.of_own h⟩

theorem ele_mem {xs : List Int} {x : Int} : x ∈ xs ↔ ∃ j, j < xs.length ∧ ele xs j = x := by
  rw [List.mem_iff_getElem?]
  constructor
  · rintro ⟨j, hj⟩
    refine ⟨j, (List.getElem?_eq_some_iff.1 hj).1, ?_⟩
    unfold ele; rw [List.getD_eq_getElem?_getD, hj]; rfl
  · rintro ⟨j, h1, h2⟩
    exact ⟨j, by rw [ele_some h1, h2]⟩

theorem strict_ele {xs : List Int} (h : xs.Pairwise (· < ·)) {i j : Nat} (hij : i < j) (hj : j < xs.length) : ele xs i < ele xs j := by
  have := (List.pairwise_iff_getElem.1 h) i j (by omega) hj hij
  unfold ele
  rw [List.getD_eq_getElem?_getD, List.getD_eq_getElem?_getD, List.getElem?_eq_getElem (by omega), List.getElem?_eq_getElem hj]
  exact this
end Go.Proofs.Ythnefhkacgkacaa
