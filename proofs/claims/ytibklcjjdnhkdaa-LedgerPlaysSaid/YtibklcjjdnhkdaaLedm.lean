/- What May and Do of package ledger do: contracts. -/
import Derived.Test.YtibklcjjdnhkdaaLedf
namespace Go.Proofs.Ytibklcjjdnhkdaa
open Go.RowKit Mf

/-- Why a move may not be. -/
def mayS (n : Int) (x : Int × Int) (frame act party : Int) : Int :=
  if frame < 0 ∨ n ≤ frame then 2 else if act < 1 ∨ 10 < act then 1 else
  if act = 9 ∧ (fnd act x.1).2 = false then 20 else
  if ((fnd act x.1).1.of_ || (fnd act x.1).1.for_) = true then
    (if party < 1 ∨ 255 < party then 1 else if (fnd act x.1).2 = false then 20 else if (fnd act x.1).1.of_ = true ∧ x.2 ≠ party then 21 else 0)
  else (if party ≠ 0 then 1 else if (fnd act x.1).2 = false then 20 else 0)

theorem ret_int {k : IntKind} {a b : Int} (h : a = b) : Ending.returned (.int k a) = .returned (.int k b) := by rw [h]

set_option maxHeartbeats 4000000 in
theorem may_any (b mb N : Nat) (n : Int) (f : Int → Option (Int × Int)) (frame act party : Int) (w : World) (h : LedAt w b mb N n f) (hw : (Lit.int .i64 frame).wf = true) :
    Calls Try.prog 10 #[.pointer (some ⟨b, 0, none⟩), .int .i64 frame, .int .i64 act, .int .i64 party] w fun e w' => e = .returned (.int .i64 (mayS n (ent f frame) frame act party)) ∧ Below w.heap.size w w' := by
  have c0 := h.c0
  have c1 := h.c1
  have hlt := h.lt
  by_cases h1 : frame < 0
  · have hf := Lib.hid (show mayS n (ent f frame) frame act party = 2 by unfold mayS; rw [if_pos (.inl h1)])
    clear h hw
    go_enter Try.func10, Try.ntmps10
    go_wp2
    go_ret
    exact ⟨ret_int hf.out.symm, Below.refl _ _⟩
  by_cases h2 : n ≤ frame
  · have hf := Lib.hid (show mayS n (ent f frame) frame act party = 2 by unfold mayS; rw [if_pos (.inr h2)])
    clear h hw
    go_enter Try.func10, Try.ntmps10
    go_wp2
    go_ret
    exact ⟨ret_int hf.out.symm, Below.refl _ _⟩
  by_cases h3 : act < 1 ∨ 10 < act
  · have hf := Lib.hid (show mayS n (ent f frame) frame act party = 1 by unfold mayS; rw [if_neg (by omega), if_pos h3])
    clear h hw
    rcases h3 with h3 | h3
    · go_enter Try.func10, Try.ntmps10
      go_wp2
      go_ret
      exact ⟨ret_int hf.out.symm, Below.refl _ _⟩
    · have h3' : ¬ act < 1 := by omega
      go_enter Try.func10, Try.ntmps10
      go_wp2
      go_ret
      exact ⟨ret_int hf.out.symm, Below.refl _ _⟩
  have hl := h.look hw
  have hs := Lib.hid (show mayS n (ent f frame) frame act party = (if act = 9 ∧ (fnd act (ent f frame).1).2 = false then 20 else
    if ((fnd act (ent f frame).1).1.of_ || (fnd act (ent f frame).1).1.for_) = true then
      (if party < 1 ∨ 255 < party then 1 else if (fnd act (ent f frame).1).2 = false then 20 else if (fnd act (ent f frame).1).1.of_ = true ∧ (ent f frame).2 ≠ party then 21 else 0)
    else (if party ≠ 0 then 1 else if (fnd act (ent f frame).1).2 = false then 20 else 0)) by unfold mayS; rw [if_neg (by omega), if_neg h3])
  obtain ⟨a1, a2⟩ : 1 ≤ act ∧ act ≤ 10 := by omega
  have hfi := Lib.hid (fun W => find_any act (ent f frame).1 W a1 a2)
  clear h hw h3
  generalize ent f frame = x at *
  obtain ⟨s, p⟩ := x
  simp only at hl hs hfi
  generalize fnd act s = r at *
  obtain ⟨⟨fr, to, of_, for_⟩, ok⟩ := r
  simp only [mvV] at hs hfi
  go_enter Try.func10, Try.ntmps10
  go_wp2_with fail
  refine (hfi.out _).mono ?_; rintro e w1 ⟨rfl, hb1⟩
  obtain ⟨k1, _, hlt1⟩ := kept4 hb1 1
  simp at k1
  have HB : Below w.heap.size w w1 := ((Below.refl _ _).alloc (Nat.le_refl _) _).trans (hb1.mono (by simp))
  clear hb1
  have HB' : ∀ o, Below w.heap.size w (w1.alloc o) := fun o => HB.alloc HB.size o
  have HB := Lib.hid HB'
  clear HB'
  by_cases h9 : act = 9 ∧ ok = false
  · obtain ⟨h9, rfl⟩ := h9
    have e9 : (act == 9) = true := by simpa using h9
    have hv := Lib.hid (show mayS n (s, p) frame act party = 20 by rw [hs.out, if_pos ⟨h9, rfl⟩])
    clear hs h9
    go_wp2
    all_goals (go_ret; exact ⟨ret_int hv.out.symm, HB.out _⟩)
  have hs2 : mayS n (s, p) frame act party = (if (of_ || for_) = true then
      (if party < 1 ∨ 255 < party then 1 else if ok = false then 20 else if of_ = true ∧ p ≠ party then 21 else 0)
    else (if party ≠ 0 then 1 else if ok = false then 20 else 0)) := by rw [hs.out, if_neg h9]
  have HS := Lib.hid hs2
  clear hs hs2
  have e9 : (act == 9) = false ∨ ok = true := by
    cases ok
    · left; rw [beq_eq_false_iff_ne]; intro e; exact h9 ⟨e, rfl⟩
    · right; rfl
  clear h9
  by_cases hn : (of_ || for_) = true
  · have hp : party < 1 ∨ 255 < party ∨ (1 ≤ party ∧ party ≤ 255) := by omega
    rcases hp with hp | hp | ⟨hp, hp'⟩
    · have hv := Lib.hid (show mayS n (s, p) frame act party = 1 by rw [HS.out, if_pos hn, if_pos (.inl hp)])
      clear HS
      rcases e9 with e9 | rfl <;> cases of_ <;> cases for_ <;> first | (exact absurd hn (by decide)) | skip
      all_goals
        clear hn
        go_wp2
        all_goals (go_ret; exact ⟨ret_int hv.out.symm, HB.out _⟩)
    · have hv := Lib.hid (show mayS n (s, p) frame act party = 1 by rw [HS.out, if_pos hn, if_pos (.inr hp)])
      have hp' : 1 ≤ party := by omega
      clear HS
      rcases e9 with e9 | rfl <;> cases of_ <;> cases for_ <;> first | (exact absurd hn (by decide)) | skip
      all_goals
        clear hn
        go_wp2
        all_goals (go_ret; exact ⟨ret_int hv.out.symm, HB.out _⟩)
    · cases ok
      · have e9' : (act == 9) = false := by
          rcases e9 with e | e
          · exact e
          · cases e
        have hv := Lib.hid (show mayS n (s, p) frame act party = 20 by rw [HS.out, if_pos hn, if_neg (by omega), if_pos rfl])
        clear HS e9
        cases of_ <;> cases for_ <;> first | (exact absurd hn (by decide)) | skip
        all_goals
          clear hn
          go_wp2
          all_goals (go_ret; exact ⟨ret_int hv.out.symm, HB.out _⟩)
      · clear e9
        cases of_
        · have hv := Lib.hid (show mayS n (s, p) frame act party = 0 by rw [HS.out, if_pos hn, if_neg (by omega), if_neg (by decide), if_neg (by simp)])
          obtain rfl : for_ = true := by simpa using hn
          clear HS hn
          by_cases c9 : act = 9
          · subst c9
            go_wp2
            all_goals (go_ret; exact ⟨ret_int hv.out.symm, HB.out _⟩)
          · have e9 : (act == 9) = false := by rw [beq_eq_false_iff_ne]; exact c9
            clear c9
            go_wp2
            all_goals (go_ret; exact ⟨ret_int hv.out.symm, HB.out _⟩)
        · by_cases hpp : p = party
          · have hv := Lib.hid (show mayS n (s, p) frame act party = 0 by rw [HS.out, if_pos hn, if_neg (by omega), if_neg (by decide), if_neg (by simp [hpp])])
            have b1 : (p != party) = false := by simpa using hpp
            clear HS hn hpp
            by_cases c9 : act = 9
            · subst c9
              go_wp2
              all_goals (go_ret; exact ⟨ret_int hv.out.symm, HB.out _⟩)
            · have e9 : (act == 9) = false := by rw [beq_eq_false_iff_ne]; exact c9
              clear c9
              go_wp2
              all_goals (go_ret; exact ⟨ret_int hv.out.symm, HB.out _⟩)
          · have hv := Lib.hid (show mayS n (s, p) frame act party = 21 by rw [HS.out, if_pos hn, if_neg (by omega), if_neg (by decide), if_pos ⟨rfl, hpp⟩])
            have b1 : (p != party) = true := by simpa using hpp
            clear HS hn hpp
            by_cases c9 : act = 9
            · subst c9
              go_wp2
              all_goals (go_ret; exact ⟨ret_int hv.out.symm, HB.out _⟩)
            · have e9 : (act == 9) = false := by rw [beq_eq_false_iff_ne]; exact c9
              clear c9
              go_wp2
              all_goals (go_ret; exact ⟨ret_int hv.out.symm, HB.out _⟩)
  · obtain ⟨rfl, rfl⟩ : of_ = false ∧ for_ = false := by cases of_ <;> cases for_ <;> simp at hn ⊢
    by_cases hp : party = 0
    · cases ok
      · have e9' : (act == 9) = false := by
          rcases e9 with e | e
          · exact e
          · cases e
        have hv := Lib.hid (show mayS n (s, p) frame act party = 20 by rw [HS.out, if_neg (by decide), if_neg (by simpa using hp), if_pos rfl])
        have b0 : (party != 0) = false := by simpa using hp
        clear HS hn hp e9
        go_wp2
        all_goals (go_ret; exact ⟨ret_int hv.out.symm, HB.out _⟩)
      · have hv := Lib.hid (show mayS n (s, p) frame act party = 0 by rw [HS.out, if_neg (by decide), if_neg (by simpa using hp), if_neg (by decide)])
        have b0 : (party != 0) = false := by simpa using hp
        clear HS hn hp e9
        by_cases c9 : act = 9
        · subst c9
          go_wp2
          all_goals (go_ret; exact ⟨ret_int hv.out.symm, HB.out _⟩)
        · have e9 : (act == 9) = false := by rw [beq_eq_false_iff_ne]; exact c9
          clear c9
          go_wp2
          all_goals (go_ret; exact ⟨ret_int hv.out.symm, HB.out _⟩)
    · have hv := Lib.hid (show mayS n (s, p) frame act party = 1 by rw [HS.out, if_neg (by decide), if_pos hp])
      have b0 : (party != 0) = true := by simpa using hp
      clear HS hn hp
      by_cases c9 : act = 9
      · subst c9
        obtain rfl : ok = true := by
          rcases e9 with e | e
          · cases e
          · exact e
        clear e9
        go_wp2
        all_goals (go_ret; exact ⟨ret_int hv.out.symm, HB.out _⟩)
      · have e9 : (act == 9) = false := by rw [beq_eq_false_iff_ne]; exact c9
        clear c9
        go_wp2
        all_goals (go_ret; exact ⟨ret_int hv.out.symm, HB.out _⟩)

end Go.Proofs.Ytibklcjjdnhkdaa
