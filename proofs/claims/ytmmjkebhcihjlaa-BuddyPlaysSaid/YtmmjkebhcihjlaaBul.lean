/- Rising rows of runs: a run put in, a run cut out. -/
import Derived.Test.YtmmjkebhcihjlaaBuh
namespace Go.Proofs.Ytmmjkebhcihjlaa

theorem split_lt {x : Int} : ∀ {l : List Int}, l.Pairwise (· < ·) → (∀ y ∈ l.take (l.countP (· < x)), y < x) ∧ ∀ y ∈ l.drop (l.countP (· < x)), x ≤ y
  | [], _ => ⟨fun y h => (by simp at h), fun y h => (by simp at h)⟩
  | a :: l, h => by
    rw [List.pairwise_cons] at h
    by_cases ha : a < x
    · have ih := split_lt (x := x) h.2
      rw [List.countP_cons_of_pos (by simpa using ha), List.take_succ_cons, List.drop_succ_cons]
      refine ⟨fun y hy => ?_, ih.2⟩
      rcases List.mem_cons.1 hy with rfl | hy
      · exact ha
      · exact ih.1 y hy
    · have h0 : (a :: l).countP (· < x) = 0 := by
        rw [List.countP_eq_zero]
        intro y hy
        rcases List.mem_cons.1 hy with rfl | hy
        · simpa using ha
        · have := h.1 y hy
          simp; omega
      rw [h0, List.take_zero, List.drop_zero]
      refine ⟨fun y hy => (by cases hy), fun y hy => ?_⟩
      rcases List.mem_cons.1 hy with rfl | hy
      · omega
      · have := h.1 y hy
        omega

theorem putL_law {x : Int} {l : List Int} (h : l.Pairwise (· < ·)) (hx : x ∉ l) : (putL x l).Pairwise (· < ·) ∧ ∀ y, y ∈ putL x l ↔ y = x ∨ y ∈ l := by
  obtain ⟨h1, h2⟩ := split_lt (x := x) h
  unfold putL
  generalize l.countP (· < x) = k at *
  have e := List.take_append_drop k l
  constructor
  · rw [← e, List.pairwise_append] at h
    rw [List.pairwise_append, List.pairwise_cons]
    refine ⟨h.1, ⟨fun y hy => ?_, h.2.1⟩, fun a ha b hb => ?_⟩
    · have := h2 y hy
      have hne : x ≠ y := fun e2 => hx (e2 ▸ List.mem_of_mem_drop hy)
      omega
    · rcases List.mem_cons.1 hb with rfl | hb
      · exact h1 a ha
      · exact h.2.2 a ha b hb
  · intro y
    rw [List.mem_append, List.mem_cons]
    have : y ∈ l ↔ y ∈ l.take k ∨ y ∈ l.drop k := by rw [← List.mem_append, e]
    rw [this]
    constructor
    · rintro (h | h | h)
      · exact .inr (.inl h)
      · exact .inl h
      · exact .inr (.inr h)
    · rintro (h | h | h)
      · exact .inr (.inl h)
      · exact .inl h
      · exact .inr (.inr h)

theorem cutL_law {x : Int} {l : List Int} (h : l.Pairwise (· < ·)) (hx : x ∈ l) : (cutL x l).Pairwise (· < ·) ∧ ∀ y, y ∈ cutL x l ↔ y ∈ l ∧ y ≠ x := by
  obtain ⟨h1, h2⟩ := split_lt (x := x) h
  unfold cutL
  generalize l.countP (· < x) = k at *
  have e := List.take_append_drop k l
  have hd : x ∈ l.drop k := by
    rw [← e, List.mem_append] at hx
    rcases hx with hx | hx
    · exact absurd (h1 x hx) (by omega)
    · exact hx
  rw [← List.drop_drop (i := 1)]
  have hp := h
  rw [← e, List.pairwise_append] at hp
  generalize l.drop k = D at *
  generalize l.take k = T at *
  cases D with
  | nil => cases hd
  | cons a D =>
    have hp2 := hp.2.1
    rw [List.pairwise_cons] at hp2
    have hax : a = x := by
      rcases List.mem_cons.1 hd with rfl | hd
      · rfl
      · have := hp2.1 x hd
        have := h2 a (List.mem_cons_self ..)
        omega
    subst hax
    rw [List.drop_succ_cons, List.drop_zero]
    constructor
    · rw [List.pairwise_append]
      exact ⟨hp.1, hp2.2, fun y hy z hz => hp.2.2 y hy z (List.mem_cons_of_mem _ hz)⟩
    · intro y
      rw [← e, List.mem_append, List.mem_append, List.mem_cons]
      constructor
      · rintro (h | h)
        · exact ⟨.inl h, by have := h1 y h; omega⟩
        · exact ⟨.inr (.inr h), by have := hp2.1 y h; omega⟩
      · rintro ⟨h | h | h, hn⟩
        · exact .inl h
        · exact absurd h hn
        · exact .inr h

theorem rise_len {l : List Int} {B : Nat} (h : l.Pairwise (· < ·)) (hb : ∀ x ∈ l, 0 ≤ x ∧ x < B) : l.length ≤ B := by
  have h2 : l.length ≤ ((List.range B).map Int.ofNat).length := by
    refine List.Nodup.length_le_of_subset ?_ (fun x hx => ?_)
    · exact h.imp (fun h e => by omega)
    · obtain ⟨h1, h2⟩ := hb x hx
      exact List.mem_map.2 ⟨x.toNat, List.mem_range.2 (by omega), by show ((x.toNat : Nat) : Int) = x; omega⟩
  simpa using h2

/-- The rows are a set of runs. -/
structure BSet (M : Nat → Nat → Prop) (R : Nat → List Int) : Prop where
  srt : ∀ o, o < 10 → (R o).Pairwise (· < ·)
  mem : ∀ o, o < 10 → ∀ x, x ∈ R o ↔ ∃ f : Nat, x = f ∧ M f o
  rng : ∀ f o, o < 10 → M f o → f < 2097152

theorem BSet.len {M : Nat → Nat → Prop} {R : Nat → List Int} (h : BSet M R) {o : Nat} (ho : o < 10) : (R o).length ≤ 2097152 :=
  rise_len (h.srt o ho) fun x hx => by
    obtain ⟨f, rfl, hm⟩ := (h.mem o ho x).1 hx
    have := h.rng f o ho hm
    omega

theorem BSet.inv {S : Nat → Bool} {R : Nat → List Int} (h : BSet (Bud.Mx S) R) : BInv S R := ⟨h.srt, h.mem, fun o ho => Nat.le_trans (h.len ho) (by omega)⟩

theorem BSet.congr {M M' : Nat → Nat → Prop} {R : Nat → List Int} (h : BSet M R) (he : ∀ f o, M' f o ↔ M f o) : BSet M' R :=
  ⟨h.srt, fun o ho x => (h.mem o ho x).trans ⟨fun ⟨f, a, b⟩ => ⟨f, a, (he f o).2 b⟩, fun ⟨f, a, b⟩ => ⟨f, a, (he f o).1 b⟩⟩, fun f o ho hm => h.rng f o ho ((he f o).1 hm)⟩

theorem BSet.put {M : Nat → Nat → Prop} {R : Nat → List Int} (h : BSet M R) {f o : Nat} (ho : o < 10) (hf : f < 2097152) (hn : ¬ M f o) : BSet (fun g p => M g p ∨ (g = f ∧ p = o)) (upd R o (putL f (R o))) := by
  have hx : (f : Int) ∉ R o := fun hx => by
    obtain ⟨g, e, hm⟩ := (h.mem o ho _).1 hx
    have : f = g := by omega
    exact hn (this ▸ hm)
  obtain ⟨h1, h2⟩ := putL_law (h.srt o ho) hx
  refine ⟨fun p hp => ?_, fun p hp x => ?_, fun g p hp hm => ?_⟩
  · unfold upd
    by_cases e : p = o
    · rw [if_pos e]; exact h1
    · rw [if_neg e]; exact h.srt p hp
  · unfold upd
    by_cases e : p = o
    · subst e
      rw [if_pos rfl, h2, h.mem p hp]
      constructor
      · rintro (h | ⟨g, a, b⟩)
        · exact ⟨f, h, .inr ⟨rfl, rfl⟩⟩
        · exact ⟨g, a, .inl b⟩
      · rintro ⟨g, a, b | ⟨b, _⟩⟩
        · exact .inr ⟨g, a, b⟩
        · exact .inl (by rw [a, b])
    · rw [if_neg e, h.mem p hp]
      constructor
      · rintro ⟨g, a, b⟩; exact ⟨g, a, .inl b⟩
      · rintro ⟨g, a, b | ⟨_, b⟩⟩
        · exact ⟨g, a, b⟩
        · exact absurd b e
  · rcases hm with hm | ⟨rfl, _⟩
    · exact h.rng g p hp hm
    · exact hf

theorem BSet.cut {M : Nat → Nat → Prop} {R : Nat → List Int} (h : BSet M R) {f o : Nat} (ho : o < 10) (hm : M f o) : BSet (fun g p => M g p ∧ ¬ (g = f ∧ p = o)) (upd R o (cutL f (R o))) := by
  have hx : (f : Int) ∈ R o := (h.mem o ho _).2 ⟨f, rfl, hm⟩
  obtain ⟨h1, h2⟩ := cutL_law (h.srt o ho) hx
  refine ⟨fun p hp => ?_, fun p hp x => ?_, fun g p hp hm => h.rng g p hp hm.1⟩
  · unfold upd
    by_cases e : p = o
    · rw [if_pos e]; exact h1
    · rw [if_neg e]; exact h.srt p hp
  · unfold upd
    by_cases e : p = o
    · subst e
      rw [if_pos rfl, h2, h.mem p hp]
      constructor
      · rintro ⟨⟨g, a, b⟩, hn⟩
        exact ⟨g, a, b, fun hc => hn (by rw [a, hc.1])⟩
      · rintro ⟨g, a, b, hc⟩
        exact ⟨⟨g, a, b⟩, fun e2 => hc ⟨by omega, rfl⟩⟩
    · rw [if_neg e, h.mem p hp]
      constructor
      · rintro ⟨g, a, b⟩; exact ⟨g, a, b, fun hc => e hc.2⟩
      · rintro ⟨g, a, b, _⟩; exact ⟨g, a, b⟩
end Go.Proofs.Ytmmjkebhcihjlaa
