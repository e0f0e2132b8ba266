/- What Do of package ledger does: its contract. -/
import Derived.Test.YtibklcjjdnhkdaaLedm
namespace Go.Proofs.Ytibklcjjdnhkdaa
open Go.RowKit Mf

/-- The entry behind a move. -/
def nowS (x : Int × Int) (act party : Int) : Int × Int := ((fnd act x.1).1.to, if (fnd act x.1).1.for_ = true then party else 0)

/-- The ledger behind a move. -/
def putS (f : Int → Option (Int × Int)) (frame : Int) (e : Int × Int) : Int → Option (Int × Int) := fun j => if j = frame then (if e.1 = 0 then none else some e) else f j

theorem LedAt.store {w : World} {b mb N : Nat} {n : Int} {f : Int → Option (Int × Int)} (h : LedAt w b mb N n f) {k : Int} (hw : (Lit.int .i64 k).wf = true) (hN : N < maxLen) (s p : Int) :
    ∃ w', (Instr.mapUpdate 45 (.map (some mb)) (.int .i64 k) (.agg #[.int .i64 s, .int .i64 p])).run Try.prog w = .ok () w' ∧ LMap w' mb (N + 1) (fun j => if j = k then some (s, p) else f j) ∧ w.mapTurned w' mb :=
  h.m.store keyed3 Try.underlying3 Try.underlying45 hN hw (s, p)

theorem LedAt.drop {w : World} {b mb N : Nat} {n : Int} {f : Int → Option (Int × Int)} (h : LedAt w b mb N n f) {k : Int} (hw : (Lit.int .i64 k).wf = true) (ty : TypeId) :
    ∃ w', (Builtin.delete_ #[45, 3] ty #[.map (some mb), .int .i64 k]).run Try.prog w = .ok (.tuple #[]) w' ∧ LMap w' mb N (fun j => if j = k then none else f j) ∧ w.mapTurned w' mb :=
  h.m.drop keyed3 Try.underlying3 Try.underlying45 hw ty

theorem field0 (s p : Int) (w : World) : (Instr.field 36 (.agg #[.int .i64 s, .int .i64 p]) 0).run Try.prog w = .ok (.int .i64 s) w := by kernel_rfl

/-- The ledger behind Do. -/
def aftS (n : Int) (f : Int → Option (Int × Int)) (frame act party : Int) : Int → Option (Int × Int) :=
  if mayS n (ent f frame) frame act party = 0 then putS f frame (nowS (ent f frame) act party) else f

theorem may0 {n : Int} {x : Int × Int} {frame act party : Int} (h : mayS n x frame act party = 0) : (0 ≤ frame ∧ frame < n) ∧ 1 ≤ act ∧ act ≤ 10 := by
  unfold mayS at h
  by_cases h1 : frame < 0 ∨ n ≤ frame
  · rw [if_pos h1] at h; cases h
  · rw [if_neg h1] at h
    by_cases h2 : act < 1 ∨ 10 < act
    · rw [if_pos h2] at h; cases h
    · omega

set_option maxHeartbeats 4000000 in
theorem do_all (b mb N : Nat) (n : Int) (f : Int → Option (Int × Int)) (frame act party : Int) (w : World) (h : LedAt w b mb N n f) (hw : (Lit.int .i64 frame).wf = true) (hN : N < maxLen) :
    Calls Try.prog 12 #[.pointer (some ⟨b, 0, none⟩), .int .i64 frame, .int .i64 act, .int .i64 party] w fun e w' => e = .returned (.int .i64 (mayS n (ent f frame) frame act party)) ∧
      LedAt w' b mb (N + 1) n (aftS n f frame act party) ∧ w.grownBy w' (some mb) := by
  have hlt := h.lt
  have hM := Lib.hid (fun W (h : LedAt W b mb N n f) => may_any b mb N n f frame act party W h hw)
  by_cases he : mayS n (ent f frame) frame act party = 0
  · have hA := Lib.hid (show aftS n f frame act party = putS f frame ((fnd act (ent f frame).1).1.to, if (fnd act (ent f frame).1).1.for_ = true then party else 0) from if_pos he)
    obtain ⟨⟨f1, f2⟩, a1, a2⟩ := may0 he
    rw [he] at hM
    rw [he]
    have hfi := Lib.hid (fun W => find_any act (ent f frame).1 W a1 a2)
    clear he
    go_enter Try.func12, Try.ntmps12
    go_wp2_with fail
    refine (hM.out _ h).mono ?_; rintro e w1 ⟨rfl, hb1⟩
    have h1 := h.below hb1
    have hl := h1.look hw
    have c0 := h1.c0
    have c1 := h1.c1
    have hlt1 := h1.lt
    have H1 := Lib.hid h1
    have HB1 := Lib.hid hb1
    clear h1 hb1
    generalize ent f frame = x at *
    obtain ⟨s, p⟩ := x
    simp only at hl hfi hA
    generalize fnd act s = r at *
    obtain ⟨⟨fr, to, of_, for_⟩, ok⟩ := r
    simp only [mvV] at hfi hA
    have hfd := field0 s p
    go_wp2_with fail
    refine (hfi.out _).mono ?_; rintro e w2 ⟨rfl, hb2⟩
    have h2 := H1.out.below hb2
    have hlt2 := h2.lt
    have c0' := h2.c0
    have c1' := h2.c1
    have H2 := Lib.hid h2
    have HB2 := Lib.hid hb2
    clear h2 hb2 c0 c1
    have hW3 : ∀ o o', LedAt ((w2.alloc o).alloc o') b mb N n f ∧ Below w.heap.size w ((w2.alloc o).alloc o') := fun o o' => by
      have h2 := H2.out
      have hb : Below w2.heap.size w2 ((w2.alloc o).alloc o') := ((Below.refl _ _).alloc (Nat.le_refl _) _).alloc (by simp) _
      have s1 := HB1.out.size
      have s2 := HB2.out.size
      exact ⟨h2.below hb, (HB1.out.trans (HB2.out.mono s1)).trans (hb.mono (by omega))⟩
    have HW3 := Lib.hid hW3
    clear hW3
    have fin : ∀ W (hW : LedAt W b mb N n f ∧ Below w.heap.size w W) w3 g, LMap w3 mb (N + 1) g → W.mapTurned w3 mb → putS f frame (to, if for_ = true then party else 0) = g → LedAt w3 b mb (N + 1) n (aftS n f frame act party) ∧ w.grownBy w3 (some mb) := by
      intro W ⟨hW, hWb⟩ w3 g hm3 ht3 hg
      have hbt := turned_below ht3 (Nat.le_refl mb)
      have hgr := ht3.grown
      have hbm : b ≠ mb := by
        intro e
        obtain ⟨es, clock, es', clock', hh, _⟩ := ht3
        have := hW.c0
        rw [e] at this
        simp [World.cell?, hh] at this
      refine ⟨⟨?_, ?_, by rw [hA.out, hg]; exact hm3, Nat.lt_of_lt_of_le hW.lt hbt.size⟩, (only_of_below hWb (some mb)).andThen hgr (fun j hj => by cases hj; exact Or.inr rfl)⟩
      · exact (World.cell?_of_block (w := W) (hgr.block b hW.lt (fun e => hbm (by injection e)))).trans hW.c0
      · exact (World.cell?_of_block (w := W) (hgr.block b hW.lt (fun e => hbm (by injection e)))).trans hW.c1
    have FIN := Lib.hid fin
    clear fin
    by_cases ht : to = 0
    · subst ht
      have hg : putS f frame (0, if for_ = true then party else 0) = fun j => if j = frame then none else f j := rfl
      have HG := Lib.hid hg
      clear hg
      cases for_
      · obtain ⟨w3, hrun, hm3, ht3⟩ := (HW3.out (.cells #[.int .i64 fr, .int .i64 0, .bool of_, .bool false] 52) (.cells #[.int .i64 0, .int .i64 0] 36)).1.drop hw 0
        have hm3 := Lib.hid (hm3.mono (Nat.le_succ N))
        have ht3 := Lib.hid ht3
        go_wp2
        go_ret
        exact ⟨rfl, FIN.out _ (HW3.out _ _) w3 _ hm3.out ht3.out HG.out⟩
      · obtain ⟨w3, hrun, hm3, ht3⟩ := (HW3.out (.cells #[.int .i64 fr, .int .i64 0, .bool of_, .bool true] 52) (.cells #[.int .i64 0, .int .i64 party] 36)).1.drop hw 0
        have hm3 := Lib.hid (hm3.mono (Nat.le_succ N))
        have ht3 := Lib.hid ht3
        go_wp2
        go_ret
        exact ⟨rfl, FIN.out _ (HW3.out _ _) w3 _ hm3.out ht3.out HG.out⟩
    · have ht' : (to == 0) = false := by simpa using ht
      have hg : putS f frame (to, if for_ = true then party else 0) = fun j => if j = frame then some (to, if for_ = true then party else 0) else f j := by
        funext j; unfold putS; rw [if_neg ht]
      have HG := Lib.hid hg
      clear hg ht
      have HD := Lib.hid (fun o o' => show LedAt ((w2.alloc o).alloc o').drew b mb N n f ∧ Below w.heap.size w ((w2.alloc o).alloc o').drew from ⟨⟨(HW3.out o o').1.c0, (HW3.out o o').1.c1, (HW3.out o o').1.m, (HW3.out o o').1.lt⟩, (HW3.out o o').2.drew⟩)
      cases for_
      · obtain ⟨w3, hrun, hm3, ht3⟩ := (HD.out (.cells #[.int .i64 fr, .int .i64 to, .bool of_, .bool false] 52) (.cells #[.int .i64 to, .int .i64 0] 36)).1.store hw hN to 0
        have hm3 := Lib.hid hm3
        have ht3 := Lib.hid ht3
        go_wp2
        go_region
        go_wp2
        go_ret
        exact ⟨rfl, FIN.out _ (HD.out _ _) w3 _ hm3.out ht3.out HG.out⟩
      · obtain ⟨w3, hrun, hm3, ht3⟩ := (HD.out (.cells #[.int .i64 fr, .int .i64 to, .bool of_, .bool true] 52) (.cells #[.int .i64 to, .int .i64 party] 36)).1.store hw hN to party
        have hm3 := Lib.hid hm3
        have ht3 := Lib.hid ht3
        go_wp2
        go_region
        go_wp2
        go_ret
        exact ⟨rfl, FIN.out _ (HD.out _ _) w3 _ hm3.out ht3.out HG.out⟩
  · have hne : (mayS n (ent f frame) frame act party != 0) = true := by simpa using he
    have HA := Lib.hid (show aftS n f frame act party = f from if_neg he)
    clear he
    generalize mayS n (ent f frame) frame act party = r at *
    go_enter Try.func12, Try.ntmps12
    go_wp2_with fail
    refine (hM.out _ h).mono ?_; rintro e w1 ⟨rfl, hb1⟩
    go_wp2
    go_ret
    have h1 := h.below hb1
    rw [HA.out]
    exact ⟨rfl, ⟨h1.c0, h1.c1, h1.m.mono (by omega), h1.lt⟩, only_of_below hb1 (some mb)⟩

theorem do_any (b mb N : Nat) (n : Int) (f : Int → Option (Int × Int)) (frame act party : Int) (w : World) (h : LedAt w b mb N n f) (hw : (Lit.int .i64 frame).wf = true) (hN : N < maxLen) (B : Nat) (_ : B ≤ b) (hB2 : B ≤ mb) :
    Calls Try.prog 12 #[.pointer (some ⟨b, 0, none⟩), .int .i64 frame, .int .i64 act, .int .i64 party] w fun e w' => e = .returned (.int .i64 (mayS n (ent f frame) frame act party)) ∧
      LedAt w' b mb (N + 1) n (aftS n f frame act party) ∧ Below B w w' :=
  (do_all b mb N n f frame act party w h hw hN).mono fun _ _ h' => ⟨h'.1, h'.2.1, (Below.refl B w).grown h'.2.2 (by have := h.m.lt; omega) (fun k hk => by cases hk; exact hB2)⟩

end Go.Proofs.Ytibklcjjdnhkdaa
