/- A slice of bools beside a buddy; the list of runs in memory. -/
import Derived.Test.YtmmjkebhcihjlaaBuj
import Derived.Deep.DeepCutAuto
import Derived.Deep.CutBlock
namespace Go.Proofs.Ytmmjkebhcihjlaa
open Go.RowKit

theorem own_sl {w : World} {base size n : Nat} {e : TypeId} {v : Value} {xs : List Value} (h : w.ownsRow base e size v n xs) : ∃ A cc, v = .slice A n cc ∧ ∀ j u, xs[j]? = some u → ∃ g, A = some ⟨g, 0, none⟩ ∧ w.cell? ⟨g, j, none⟩ = some u := by
  obtain ⟨A, m, cc, rfl⟩ := own_form h
  rcases h.2 with ⟨e, h0⟩ | ⟨g, cap, cur, e, _⟩
  · injection e with e1 e2 e3
    subst e1 e2 e3
    refine ⟨_, _, by rw [h0], fun j u hj => ?_⟩
    have hl := h.1
    rw [h0, Nat.zero_mul] at hl
    have := List.eq_nil_of_length_eq_zero hl
    rw [this] at hj; cases hj
  · injection e with e1 e2 e3
    subst e1 e2 e3
    refine ⟨_, _, rfl, fun j u hj => ⟨g, rfl, ?_⟩⟩
    have hj' := (List.getElem?_eq_some_iff.1 hj).1
    rw [h.cellAt j (by rw [← h.1]; exact hj'), hj]

theorem flat_pv {ts : List (Nat × Nat)} {i f o : Nat} (h : ts[i]? = some (f, o)) : (ts.flatMap pv)[i * 2]? = some (.int .i64 (f : Int)) ∧ (ts.flatMap pv)[i * 2 + 1]? = some (.int .i64 (o : Int)) :=
  ⟨(flat_get pv_len ts i 0 (f, o) h (by omega)).trans rfl, (flat_get pv_len ts i 1 (f, o) h (by omega)).trans rfl⟩

theorem sumR_len : ∀ (ts : List (Nat × Nat)), ts.length ≤ sumR ts
  | [] => Nat.le_refl _
  | (f, o) :: ts => by
    have := sumR_len ts
    have hp := Bud.pow_pos o
    unfold sumR at *
    rw [List.map_cons, List.sum_cons, List.length_cons]
    have e : 2 ^ (f, o).2 = 2 ^ o := rfl
    omega

theorem made_one (z : Value) (h : z.cells = #[z]) (n : Nat) : (madeCells z.cells (n * 1)).toList = List.replicate n z := by
  apply List.ext_getElem?
  intro j
  unfold madeCells
  rw [h, Nat.mul_one]
  by_cases hj : j < n
  · rw [List.getElem?_replicate, if_pos hj]; simp [hj, Nat.mod_one]
  · rw [List.getElem?_replicate, if_neg hj]; simp [hj]

theorem infoB : (Try.prog.info? 4).map (fun i => (i.zero, i.size, i.bytes)) = some (some (.bool false), 1, 1) := by kernel_rfl

def bl (n : Nat) (F : Nat → Bool) : List Value := (List.range n).map fun i => .bool (F i)
theorem bl_len (n : Nat) (F : Nat → Bool) : (bl n F).length = n := by simp [bl]
theorem bl_get {n i : Nat} (F : Nat → Bool) (h : i < n) : (bl n F)[i]? = some (.bool (F i)) := by simp [bl, h]
theorem bl_set {n i : Nat} (F : Nat → Bool) (v : Bool) : (bl n F).set i (.bool v) = bl n (upd F i v) := by
  apply List.ext_getElem?
  intro j
  rw [List.getElem?_set]
  by_cases e : i = j
  · subst e
    rw [if_pos rfl, bl_len]
    by_cases hj : i < n
    · rw [if_pos hj, bl_get _ hj]; simp [upd]
    · rw [if_neg hj, List.getElem?_eq_none (by rw [bl_len]; omega)]
  · rw [if_neg e]
    by_cases hj : j < n
    · rw [bl_get _ hj, bl_get _ hj]; simp [upd, Ne.symm e]
    · rw [List.getElem?_eq_none (by rw [bl_len]; omega), List.getElem?_eq_none (by rw [bl_len]; omega)]
theorem bl_made (n : Nat) : List.replicate n (Value.bool false) = bl n fun _ => false := by
  apply List.ext_getElem?
  intro j
  by_cases hj : j < n
  · rw [bl_get _ hj, List.getElem?_replicate, if_pos hj]
  · rw [List.getElem?_eq_none (by simp; omega), List.getElem?_eq_none (by rw [bl_len]; omega)]

/-- A buddy and a slice of bools. -/
structure Ls (w wr : World) (c fi n : Nat) (S : Nat → Bool) (B : Nat → Prop) (gw : Nat) (F : Nat → Bool) : Prop where
  bd : BdAt wr w.heap.size c fi n S B
  ws : wr.ownsRow w.heap.size 4 1 (.slice (some ⟨gw, 0, none⟩) n n) n (bl n F)
  ap : ¬ B gw
  be : Below w.heap.size w wr

section
variable {w wr w2 : World} {c fi n gw : Nat} {S S' : Nat → Bool} {B : Nat → Prop} {F : Nat → Bool}
theorem Ls.below (h : Ls w wr c fi n S B gw F) (hb : Below wr.heap.size wr w2) : Ls w w2 c fi n S B gw F := ⟨h.bd.below hb, own_below h.ws hb, h.ap, h.be.trans (hb.mono h.be.size)⟩
theorem Ls.drewN (h : Ls w wr c fi n S B gw F) (q : Nat) : Ls w (wr.drewN q) c fi n S B gw F := h.below (below_drewN (Below.refl _ _) q)
theorem Ls.to (h : Ls w wr c fi n S B gw F) (ht : BdTo wr w2 w.heap.size c fi n S' B) : ∃ B', Ls w w2 c fi n S' B' gw F := by
  have h1 := ht.own h.ws (fun g hg hB => by cases hg; exact h.ap hB)
  have h2 := ht.bel h.be h.bd (Nat.le_refl _)
  obtain ⟨B', hb, _, hs⟩ := ht
  exact ⟨B', hb, h1, fun hg => by
    rcases hs _ hg with h3 | h3
    · exact h.ap h3
    · have := (h.ws.lt gw rfl).2; omega, h2⟩
theorem Ls.cell (h : Ls w wr c fi n S B gw F) {j : Nat} (hj : j < n) : wr.cell? ⟨gw, j, none⟩ = some (.bool (F j)) := by rw [h.ws.cellAt j (by omega), bl_get F hj]
theorem Ls.frozen (h : Ls w wr c fi n S B gw F) (j : Nat) : wr.frozen? ⟨gw, j, none⟩ = false := h.ws.frozenAt j
theorem Ls.set (h : Ls w wr c fi n S B gw F) (j : Nat) (v : Bool) : Ls w (wr.setCell ⟨gw, j, none⟩ (.bool v)) c fi n S B gw (upd F j v) := by
  obtain ⟨h1, h2⟩ := h.ws.stored j (.bool v)
  rw [bl_set] at h1
  have hg := (h.ws.lt gw rfl).1
  exact ⟨h.bd.apart (T := fun k => k = gw) ((Only.refl _ _).grown h2 (fun g e => .inl (by cases e; rfl))) (fun g hB e => h.ap (by subst e; exact hB)), h1, h.ap, h.be.grown h2 h.be.size (fun k e => by cases e; exact hg)⟩
end

theorem hasF_nat (S : Nat → Bool) (k : Nat) : hasF S (k : Int) = S k := by unfold hasF; rw [Int.toNat_natCast]; simp

theorem quiet_drew {P : Program} {f : FuncId} {args : Array Value} {w : World} {n : Nat} {v : Value}
    (h : Calls P f args (w.drewN n) fun e w' => e = .returned v ∧ ∃ q, w' = (w.drewN n).drewN q) : Calls P f args (w.drewN n) fun e w'' => e = .returned v ∧ ∃ m, w'' = w.drewN m :=
  h.mono fun _ _ ⟨he, q, hq⟩ => ⟨he, n + q, by rw [hq, World.drewN_drewN]⟩
end Go.Proofs.Ytmmjkebhcihjlaa
