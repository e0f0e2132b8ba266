/- The document's own answer for package index: plain laws of Alike. -/
import Derived.Test.YtkpngkdkkcadfaaIrf
namespace Go.Proofs.Ytkpngkdkkcadfaa
open Go.RowKit Mk

theorem take_snoc {α : Type} {xs : List α} {i : Nat} {x : α} (h : xs[i]? = some x) : xs.take (i + 1) = xs.take i ++ [x] := by rw [List.take_add_one, h]; rfl
/-- The frames of a sum. -/
def gl (xs : List Is) (z : Cx) : List Int := (xs.filter fun x => decide (x.2 = z)).map (·.1)
def Fst (xs : List Is) (i : Nat) (z : Cx) : Prop := ∀ j x, j < i → xs[j]? = some x → x.2 ≠ z
section
variable {xs : List Is} {S : Ki → Option Cx} {z : Cx} {i : Nat}
theorem gl_grp (h : XSim xs S) (z : Cx) : Grp S z (gl xs z) := by
  refine ⟨?_, fun f => ?_⟩
  · unfold gl
    rw [List.pairwise_map]
    exact h.1.sublist List.filter_sublist
  · unfold gl
    rw [List.mem_map, ← h.2 f z]
    constructor
    · rintro ⟨x, hx, rfl⟩
      obtain ⟨h1, h2⟩ := List.mem_filter.1 hx
      have h2 : x.2 = z := of_decide_eq_true h2
      subst h2
      exact h1
    · intro hm
      exact ⟨(f, z), List.mem_filter.2 ⟨hm, by simp⟩, rfl⟩
theorem gl_take_yes {x : Is} (hx : xs[i]? = some x) (hz : x.2 = z) : gl (xs.take (i + 1)) z = gl (xs.take i) z ++ [x.1] := by
  unfold gl
  rw [take_snoc hx, List.filter_append, List.map_append, List.filter_cons_of_pos (by simpa using hz)]
  rfl
theorem gl_take_no {x : Is} (hx : xs[i]? = some x) (hz : x.2 ≠ z) : gl (xs.take (i + 1)) z = gl (xs.take i) z := by
  unfold gl
  rw [take_snoc hx, List.filter_append, List.map_append, List.filter_cons_of_neg (by simpa using hz)]
  simp
theorem gl_fst (h : Fst xs i z) : gl (xs.take i) z = [] := by
  unfold gl
  rw [List.map_eq_nil_iff, List.filter_eq_nil_iff]
  intro x hx
  obtain ⟨j, hj⟩ := List.mem_iff_getElem?.1 hx
  rw [List.getElem?_take] at hj
  split at hj
  · simpa using h j x (by assumption) hj
  · cases hj
theorem gl_len (xs : List Is) (z : Cx) : (gl xs z).length ≤ xs.length := by
  unfold gl
  rw [List.length_map]
  exact List.length_filter_le ..
/-- The head of a group is its first. -/
theorem gl_head {x : Is} (hx : xs[i]? = some x) (hf : Fst xs i x.2) : (gl xs x.2).headD 0 = x.1 := by
  have hsp : xs = xs.take i ++ x :: xs.drop (i + 1) := by
    obtain ⟨hkl, hke⟩ := List.getElem?_eq_some_iff.1 hx
    have e := List.getElem_cons_drop (h := hkl)
    rw [hke] at e
    rw [e, List.take_append_drop]
  have h1 := gl_fst hf
  unfold gl at h1 ⊢
  rw [hsp, List.filter_append, List.map_append]
  rw [h1, List.nil_append, List.filter_cons_of_pos (by simp)]
  rfl
/-- Groups found behind i rounds. -/
def AkS (xs : List Is) (i : Nat) (ls : List (List Int)) : Prop := ls.Pairwise (fun a b => a.headD 0 < b.headD 0) ∧ ∀ l, l ∈ ls ↔ ∃ j x, j < i ∧ xs[j]? = some x ∧ Fst xs j x.2 ∧ l = gl xs x.2 ∧ 1 < l.length
theorem AkS.zero (xs : List Is) : AkS xs 0 [] := ⟨List.Pairwise.nil, fun l => ⟨fun h => (by cases h), fun ⟨j, x, h, _⟩ => by omega⟩⟩
theorem AkS.skip {ls : List (List Int)} (h : AkS xs i ls) {x : Is} (hx : xs[i]? = some x) (hs : ¬ Fst xs i x.2 ∨ ¬ 1 < (gl xs x.2).length) : AkS xs (i + 1) ls := by
  refine ⟨h.1, fun l => ?_⟩
  rw [h.2 l]
  constructor
  · rintro ⟨j, y, h1, h2⟩
    exact ⟨j, y, by omega, h2⟩
  · rintro ⟨j, y, h1, h2, h3, h4, h5⟩
    by_cases e : j = i
    · subst e
      rw [hx] at h2; cases h2
      rcases hs with hs | hs
      · exact absurd h3 hs
      · rw [h4] at h5; exact absurd h5 hs
    · exact ⟨j, y, by omega, h2, h3, h4, h5⟩
theorem AkS.more {ls : List (List Int)} (h : AkS xs i ls) (hs : XSim xs S) {x : Is} (hx : xs[i]? = some x) (hf : Fst xs i x.2) (hl : 1 < (gl xs x.2).length) : AkS xs (i + 1) (ls ++ [gl xs x.2]) := by
  refine ⟨?_, fun l => ?_⟩
  · rw [List.pairwise_append]
    refine ⟨h.1, by simp, fun a ha b hb => ?_⟩
    rw [List.mem_singleton] at hb; subst hb
    obtain ⟨j, y, h1, h2, h3, h4, h5⟩ := (h.2 a).1 ha
    rw [gl_head hx hf, h4, gl_head h2 h3]
    exact (hs.at_ h2 hx).1 h1
  · rw [List.mem_append, List.mem_singleton, h.2 l]
    constructor
    · rintro (⟨j, y, h1, h2⟩ | rfl)
      · exact ⟨j, y, by omega, h2⟩
      · exact ⟨i, x, by omega, hx, hf, rfl, hl⟩
    · rintro ⟨j, y, h1, h2, h3, h4, h5⟩
      by_cases e : j = i
      · subst e
        rw [hx] at h2; cases h2
        exact .inr h4
      · exact .inl ⟨j, y, by omega, h2, h3, h4, h5⟩
theorem first_of (z : Cx) : ∀ (xs : List Is), (∃ x ∈ xs, x.2 = z) → ∃ j x, xs[j]? = some x ∧ x.2 = z ∧ Fst xs j z
  | [], h => by obtain ⟨x, hx, _⟩ := h; cases hx
  | a :: l, h => by
    by_cases e : a.2 = z
    · exact ⟨0, a, rfl, e, fun j x hj => by omega⟩
    · obtain ⟨x, hx, hz⟩ := h
      obtain ⟨j, y, h1, h2, h3⟩ := first_of z l ⟨x, (List.mem_cons.1 hx).resolve_left (fun e2 => e (by rw [← e2]; exact hz)), hz⟩
      refine ⟨j + 1, y, h1, h2, fun k u hk hu => ?_⟩
      cases k with
      | zero => simp at hu; subst hu; exact e
      | succ k => exact h3 k u (by omega) hu
theorem AkS.all {ls : List (List Int)} {n : Nat} (h : AkS xs n ls) (hn : xs.length = n) (hs : XSim xs S) : AlikeOf S ls := by
  subst hn
  refine ⟨h.1, fun l => ?_⟩
  rw [h.2 l]
  constructor
  · rintro ⟨j, x, _, _, _, rfl, h5⟩
    exact ⟨⟨x.2, gl_grp hs _⟩, h5⟩
  · rintro ⟨⟨z, hz⟩, h5⟩
    have e := hz.unique (gl_grp hs z)
    obtain ⟨f, hf⟩ : ∃ f, f ∈ gl xs z := ⟨_, hd_mem (l := gl xs z) (by rw [← e]; omega)⟩
    unfold gl at hf
    obtain ⟨x, hx, _⟩ := List.mem_map.1 hf
    obtain ⟨h6, h7⟩ := List.mem_filter.1 hx
    obtain ⟨j, y, h8, h9, h10⟩ := first_of z xs ⟨x, h6, of_decide_eq_true h7⟩
    subst h9
    exact ⟨j, y, (List.getElem?_eq_some_iff.1 h8).1, h8, h10, e, h5⟩
end
theorem AlikeOf.unique {S : Ki → Option Cx} {ls ms : List (List Int)} (h : AlikeOf S ls) (k : AlikeOf S ms) : ls = ms := by
  have hn : ∀ {l : List (List Int)}, l.Pairwise (fun a b => a.headD 0 < b.headD 0) → l.Nodup := fun h => h.imp fun h e => by subst e; omega
  have hp : ls.Perm ms := (List.perm_ext_iff_of_nodup (hn h.1) (hn k.1)).2 fun p => by rw [h.2, k.2]
  exact List.Perm.eq_of_pairwise (le := fun a b => a.headD 0 < b.headD 0) (fun a b _ _ h1 h2 => by omega) h.1 k.1 hp
end Go.Proofs.Ytkpngkdkkcadfaa
