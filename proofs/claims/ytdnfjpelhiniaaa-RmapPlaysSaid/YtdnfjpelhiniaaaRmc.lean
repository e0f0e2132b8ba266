/- Package rmap: New, Add. -/
import Derived.Test.YtdnfjpelhiniaaaRmb
import Derived.Test.YtdnfjpelhiniaaaTakz
namespace Go.Proofs.Ytdnfjpelhiniaaa
open Go.RowKit Mf

/-- Behind a call that turns the map alone. -/
def RmTo (w w' : World) (W c mb N : Nat) (F : Int → Option Nat) (u' : Int → Plc → Bool) : Prop := ∃ F', RmAt w' W c mb N F' u' ∧ Only (RmS mb F) w w' ∧ ∀ k b, F' k = some b → (∃ j, F j = some b) ∨ w.heap.size ≤ b

def addE (u : Int → Plc → Bool) (k : Int) (p : Plc) : Int := if k < 0 then 1 else if u k p then 22 else 0
def addU (u : Int → Plc → Bool) (k : Int) (p : Plc) : Int → Plc → Bool := if k < 0 then u else fun j q => if j = k ∧ q = p then true else u j q

theorem mnew (w : World) : Calls Try.prog 6 #[] w fun e w' => e = .returned (.pointer (some ⟨w.heap.size + 1, 0, none⟩)) ∧ RmAt w' w.heap.size (w.heap.size + 1) w.heap.size 0 (fun _ => none) (fun _ _ => false) ∧ Below w.heap.size w w' := by
  have hmm := @run_makeMap Try.prog
  go_enter Try.func6, Try.ntmps6
  go_wp2
  go_ret
  exact ⟨rfl, ⟨⟨by have := Blk.new (w.alloc (.map #[] 0)) 51 #[.map (some w.heap.size)]; simpa using this, (MapF.new w _ _ _ refC).alloc _, fun k b h => (by cases h), fun _ _ _ => rfl, fun k k' b h => (by cases h), fun k b h => (by cases h), by omega, by omega, Nat.le_refl _, fun k b h => (by cases h)⟩, fun k b h => (by cases h)⟩, ((Below.refl _ _).alloc (Nat.le_refl _) _).alloc (by simp) _⟩

theorem map_nil (x : Option Nat) (w : World) : (binOp .eql 52 (.map x) (.map none)).run Try.prog w = .ok (.bool x.isNone) w := by
  have hu := run_underlying (P := Try.prog) (w := w) Try.underlying52
  have h1 : (Op.equalIn (9999 + 1) 52 (.map x) (.map none)).run Try.prog w = .ok x.isNone w := by
    unfold Op.equalIn
    cases x <;> simp [hu]
  have h2 : (binOp .eql 52 (.map x) (.map none)).run Try.prog w = ((Op.equalIn 10000 52 (.map x) (.map none)).run Try.prog w).andThen fun b w' => .ok (.bool b) w' := by
    cases x <;> (simp only [binOp]; simp [Op.equal, Op.maxDepth])
  rw [h2, show (10000 : Nat) = 9999 + 1 from rfl, h1]
  rfl

theorem Rm0.mono {w : World} {W c mb N N' : Nat} {F : Int → Option Nat} {u : Int → Plc → Bool} (h : Rm0 w W c mb N F u) (hN : N ≤ N') : Rm0 w W c mb N' F u :=
  ⟨h.blk, h.out.mono hN, fun k b hk => (h.inn k b hk).mono hN, h.non, h.inj, h.ne, h.cm, h.lo⟩

section
variable {w : World} {W c mb N : Nat} {F : Int → Option Nat} {u : Int → Plc → Bool}

theorem RmTo.same (h : RmAt w W c mb N F u) {w' : World} (hb : Below w.heap.size w w') {N' : Nat} (hN : N ≤ N') : RmTo w w' W c mb N' F u := by
  have h1 := h.below hb
  exact ⟨F, ⟨⟨h1.r.blk, h1.r.out.mono hN, fun k b hk => (h1.r.inn k b hk).mono hN, h1.r.non, h1.r.inj, h1.r.ne, h1.r.cm, h1.r.lo⟩, h1.som⟩, only_fresh hb, fun k b hk => .inl ⟨k, hk⟩⟩

set_option maxRecDepth 100000 in
set_option maxHeartbeats 4000000 in
theorem madd (h : RmAt w W c mb N F u) (k : Int) (hk : (Lit.int .i64 k).wf = true) (p : Plc) (hN : N + 1 < maxLen) (hW : W ≤ w.heap.size) :
    Calls Try.prog 7 #[.pointer (some ⟨c, 0, none⟩), .int .i64 k, .agg #[.int .i64 p.1.1, .int .u64 p.1.2]] w fun e w' => e = .returned (.int .i64 (addE u k p)) ∧ RmTo w w' W c mb (N + 2) F (addU u k p) := by
  have hb := (Below.refl w.heap.size w).alloc (Nat.le_refl _) (.cells #[.int .i64 p.1.1, .int .u64 p.1.2] 31)
  unfold addE addU
  by_cases hk0 : k < 0
  · have g0 : decide (k < 0) = true := by simp; exact hk0
    rw [if_pos hk0, if_pos hk0]
    have HS := Lib.hid (RmTo.same h hb (show N ≤ N + 2 by omega))
    clear h hb hk0
    go_enter Try.func7, Try.ntmps7
    go_wp2
    go_ret
    exact ⟨rfl, HS.out⟩
  · have g0 : decide (k < 0) = false := by simp; omega
    rw [if_neg hk0, if_neg hk0]
    have HA := Lib.hid (h.below hb)
    have HB := Lib.hid hb
    have e0 := ((Blk.new w 31 #[.int .i64 p.1.1, .int .u64 p.1.2]).cell 0).trans rfl
    have e1 := ((Blk.new w 31 #[.int .i64 p.1.1, .int .u64 p.1.2]).cell 1).trans rfl
    have HG := Lib.hid (Blk.new w 31 #[.int .i64 p.1.1, .int .u64 p.1.2])
    have HH := Lib.hid h
    have CH := mhas HA.out.r k hk p
    clear h hb
    cases hu : u k p
    · rw [hu] at CH
      rw [if_neg (by decide)]
      have HU := Lib.hid hu
      clear hu
      go_enter Try.func7, Try.ntmps7
      go_wp2_with fail
      refine CH.mono ?_; rintro e w1 ⟨rfl, hb1⟩
      have HA1 := Lib.hid (HA.out.below hb1)
      have HB1 := Lib.hid (HB.out.trans (hb1.mono HB.out.size))
      have HG1 := Lib.hid (HG.out.below hb1 HG.out.lt)
      have hW1 : W ≤ w1.heap.size := by have := HB1.out.size; omega
      clear hb1 e0 e1 HA HB HG CH
      have d0 := (HA1.out.r.blk.cell 0).trans rfl
      have l1 := HA1.out.r.look hk
      cases hF : F k with
      | none =>
        rw [hF] at l1
        obtain ⟨w3, hr3, h3, ho3⟩ := HA1.out.r.lay hk hF (by omega) hW1
        have hmm := @run_makeMap Try.prog
        have hnl := map_nil none
        have HF := Lib.hid hF
        obtain ⟨F1, hF1⟩ : ∃ F1 : Int → Option Nat, F1 = fun j => if j = k then some w1.heap.size else F j := ⟨_, rfl⟩
        rw [← hF1] at h3
        have H3 := Lib.hid h3
        have HG3 := Lib.hid (HG1.out.only ho3 (fun e => by have := (HH.out.r.out).lt; omega))
        have HO3 := Lib.hid (show Only (RmS mb F) w w3 from (only_fresh HB1.out).trans (ho3.mono (fun g e => .inl e)))
        have HFK := Lib.hid (show F1 k = some w1.heap.size by rw [hF1]; simp)
        have HF1 := Lib.hid (show ∀ j b', F1 j = some b' → (j = k ∧ b' = w1.heap.size) ∨ (j ≠ k ∧ F j = some b') from fun j b' hj => by
          rw [hF1] at hj
          simp only at hj
          by_cases e : j = k
          · rw [if_pos e] at hj; cases hj; exact .inl ⟨e, rfl⟩
          · rw [if_neg e] at hj; exact .inr ⟨e, hj⟩)
        clear hF1
        clear hF h3 ho3
        go_wp2_with fail
        clear d0 l1 hr3 hnl hmm HA1 HG1
        have H3d : Rm0 w3.drew W c mb (N + 1) F1 u := H3.out.drewN 1
        obtain ⟨w4, hr4, h4, ho4⟩ := H3d.put HFK.out hN p
        have H4 := Lib.hid h4
        have HO4 := Lib.hid ho4
        have d0 : (w3.drew).cell? ⟨c, 0, none⟩ = some (.map (some mb)) := (H3.out.blk.cell 0).trans rfl
        have l1 := H3d.look hk
        rw [HFK.out] at l1
        have e0 : (w3.drew).cell? ⟨w.heap.size, 0, none⟩ = some (.int .i64 p.1.1) := (HG3.out.cell 0).trans rfl
        have e1 : (w3.drew).cell? ⟨w.heap.size, 1, none⟩ = some (.int .u64 p.1.2) := (HG3.out.cell 1).trans rfl
        have l1 : (Instr.lookup 49 (.map (some mb)) (.int .i64 k) false).run Try.prog w3.drew = .ok (.map (some w1.heap.size)) w3.drew := l1
        have hr4 : (Instr.mapUpdate 52 (.map (some w1.heap.size)) (.agg #[.int .i64 p.1.1, .int .u64 p.1.2]) (.bool true)).run Try.prog w3.drew = .ok () w4 := hr4
        have HO3' := Lib.hid (show Only (RmS mb F) w w3.drew from HO3.out.drew)
        have HB9 := Lib.hid (show (∃ j, F j = some w1.heap.size) ∨ w.heap.size ≤ w1.heap.size from .inr HB1.out.size)
        have HLT := Lib.hid (show w1.heap.size < (w3.drew).heap.size from (H3.out.inn k _ HFK.out).lt)
        clear h4 ho4 H3 HG3 HO3 H3d
        refine beginZ (z := 7) (S := (fun w' => w' = w3.drew)) (by kernel_rfl) ?_ (fun hHeld => ?_)
        · rfl
        generalize w3.drew = wd at *
        ((refine takeYZ 0 (by kernel_rfl) (v := ?_) rfl (by kernel_rfl) (by kernel_rfl) (by kernel_rfl) (fun _ _ _ h => h) (by rfl) (by assumption) ?_ ?_; rotate_left; · (intro w hSw; (try dsimp only at hSw); go_simp; (first | done | with_reducible rfl))))
        (try simp only [Act.put, List.setIfInBounds_toArray, List.set_cons_zero, List.set_cons_succ])
        ((refine takeYZ 1 (by kernel_rfl) (v := ?_) rfl (by kernel_rfl) (by kernel_rfl) (by kernel_rfl) (fun _ _ _ h => h) (by rfl) (by assumption) ?_ ?_; rotate_left; · (intro w hSw; (try dsimp only at hSw); go_simp; (first | done | with_reducible rfl))))
        (try simp only [Act.put, List.setIfInBounds_toArray, List.set_cons_zero, List.set_cons_succ])
        ((refine takeYZ 2 (by kernel_rfl) (v := ?_) rfl (by kernel_rfl) (by kernel_rfl) (by kernel_rfl) (fun _ _ _ h => h) (by rfl) (by assumption) ?_ ?_; rotate_left; · (intro w hSw; (try dsimp only at hSw); go_simp; (first | done | with_reducible rfl))))
        (try simp only [Act.put, List.setIfInBounds_toArray, List.set_cons_zero, List.set_cons_succ])
        ((refine takeYZ 3 (by kernel_rfl) (v := ?_) rfl (by kernel_rfl) (by kernel_rfl) (by kernel_rfl) (fun _ _ _ h => h) (by rfl) (by assumption) ?_ ?_; rotate_left; · (intro w hSw; (try dsimp only at hSw); go_simp; (first | done | with_reducible rfl))))
        (try simp only [Act.put, List.setIfInBounds_toArray, List.set_cons_zero, List.set_cons_succ])
        ((refine takeYZ 4 (by kernel_rfl) (v := ?_) rfl (by kernel_rfl) (by kernel_rfl) (by kernel_rfl) (fun _ _ _ h => h) (by rfl) (by assumption) ?_ ?_; rotate_left; · (intro w hSw; (try dsimp only at hSw); go_simp; (first | done | with_reducible rfl))))
        (try simp only [Act.put, List.setIfInBounds_toArray, List.set_cons_zero, List.set_cons_succ])
        ((refine takeYZ 5 (by kernel_rfl) (v := ?_) rfl (by kernel_rfl) (by kernel_rfl) (by kernel_rfl) (fun _ _ _ h => h) (by rfl) (by assumption) ?_ ?_; rotate_left; · (intro w hSw; (try dsimp only at hSw); go_simp; (first | done | with_reducible rfl))))
        (try simp only [Act.put, List.setIfInBounds_toArray, List.set_cons_zero, List.set_cons_succ])
        ((refine takeYZ 6 (by kernel_rfl) (v := ?_) rfl (by kernel_rfl) (by kernel_rfl) (by kernel_rfl) (fun _ _ _ h => h) (by rfl) (by assumption) ?_ ?_; rotate_left; · (intro w hSw; (try dsimp only at hSw); go_simp; (first | done | with_reducible rfl))))
        (try simp only [Act.put, List.setIfInBounds_toArray, List.set_cons_zero, List.set_cons_succ])
        refine endZ rfl (by kernel_rfl) (by kernel_rfl) (by rfl) (fun K hK => ?_)
        go_simp
        refine hK.out _ _ ?_
        clear hK K hHeld
        go_wp2
        go_ret
        refine ⟨rfl, _, ⟨H4.out, fun j b' hj => ?_⟩, ?_, fun j b' hj => (HF1.out j b' hj).elim (fun h => .inr (by rw [h.2]; exact HB1.out.size)) (fun h => .inl ⟨j, h.2⟩)⟩
        · by_cases e : j = k
          · exact ⟨p, by simp [e]⟩
          · obtain ⟨q, hq⟩ := HH.out.som j b' ((HF1.out j b' hj).elim (fun h => absurd h.1 e) (fun h => h.2))
            exact ⟨q, by simp [e, hq]⟩
        · rcases HB9.out with ⟨j, hj⟩ | hge
          · exact HO3'.out.trans (HO4.out.mono (fun g e => .inr ⟨j, by rw [e]; exact hj⟩))
          · exact HO3'.out.below (HO4.out.to_below (B := w1.heap.size) (fun k e => by rw [e]; exact Nat.le_refl _) (Nat.le_of_lt HLT.out)) (fun k h1 h2 => by exfalso; omega)
      | some b =>
        rw [hF] at l1
        have hnl := map_nil (some b)
        have H3 := Lib.hid (HA1.out.r.mono (Nat.le_succ N))
        have HG3 := HG1
        have HO3 := Lib.hid (show Only (RmS mb F) w w1 from only_fresh HB1.out)
        have HFK := Lib.hid hF
        clear hF
        go_wp2_with fail
        clear d0 l1 hnl HA1 HG1
        have H3d : Rm0 w1.drew W c mb (N + 1) F u := H3.out.drewN 1
        obtain ⟨w4, hr4, h4, ho4⟩ := H3d.put HFK.out hN p
        have H4 := Lib.hid h4
        have HO4 := Lib.hid ho4
        have d0 : (w1.drew).cell? ⟨c, 0, none⟩ = some (.map (some mb)) := (H3.out.blk.cell 0).trans rfl
        have l1 := H3d.look hk
        rw [HFK.out] at l1
        have e0 : (w1.drew).cell? ⟨w.heap.size, 0, none⟩ = some (.int .i64 p.1.1) := (HG3.out.cell 0).trans rfl
        have e1 : (w1.drew).cell? ⟨w.heap.size, 1, none⟩ = some (.int .u64 p.1.2) := (HG3.out.cell 1).trans rfl
        have l1 : (Instr.lookup 49 (.map (some mb)) (.int .i64 k) false).run Try.prog w1.drew = .ok (.map (some b)) w1.drew := l1
        have hr4 : (Instr.mapUpdate 52 (.map (some b)) (.agg #[.int .i64 p.1.1, .int .u64 p.1.2]) (.bool true)).run Try.prog w1.drew = .ok () w4 := hr4
        have HO3' := Lib.hid (show Only (RmS mb F) w w1.drew from HO3.out.drew)
        have HB9 := Lib.hid (show (∃ j, F j = some b) ∨ w.heap.size ≤ b from .inl ⟨k, HFK.out⟩)
        have HLT := Lib.hid (show b < (w1.drew).heap.size from (H3.out.inn k _ HFK.out).lt)
        clear h4 ho4 H3 HG3 HO3 H3d
        refine beginZ (z := 7) (S := (fun w' => w' = w1.drew)) (by kernel_rfl) ?_ (fun hHeld => ?_)
        · rfl
        generalize w1.drew = wd at *
        ((refine takeYZ 0 (by kernel_rfl) (v := ?_) rfl (by kernel_rfl) (by kernel_rfl) (by kernel_rfl) (fun _ _ _ h => h) (by rfl) (by assumption) ?_ ?_; rotate_left; · (intro w hSw; (try dsimp only at hSw); go_simp; (first | done | with_reducible rfl))))
        (try simp only [Act.put, List.setIfInBounds_toArray, List.set_cons_zero, List.set_cons_succ])
        ((refine takeYZ 1 (by kernel_rfl) (v := ?_) rfl (by kernel_rfl) (by kernel_rfl) (by kernel_rfl) (fun _ _ _ h => h) (by rfl) (by assumption) ?_ ?_; rotate_left; · (intro w hSw; (try dsimp only at hSw); go_simp; (first | done | with_reducible rfl))))
        (try simp only [Act.put, List.setIfInBounds_toArray, List.set_cons_zero, List.set_cons_succ])
        ((refine takeYZ 2 (by kernel_rfl) (v := ?_) rfl (by kernel_rfl) (by kernel_rfl) (by kernel_rfl) (fun _ _ _ h => h) (by rfl) (by assumption) ?_ ?_; rotate_left; · (intro w hSw; (try dsimp only at hSw); go_simp; (first | done | with_reducible rfl))))
        (try simp only [Act.put, List.setIfInBounds_toArray, List.set_cons_zero, List.set_cons_succ])
        ((refine takeYZ 3 (by kernel_rfl) (v := ?_) rfl (by kernel_rfl) (by kernel_rfl) (by kernel_rfl) (fun _ _ _ h => h) (by rfl) (by assumption) ?_ ?_; rotate_left; · (intro w hSw; (try dsimp only at hSw); go_simp; (first | done | with_reducible rfl))))
        (try simp only [Act.put, List.setIfInBounds_toArray, List.set_cons_zero, List.set_cons_succ])
        ((refine takeYZ 4 (by kernel_rfl) (v := ?_) rfl (by kernel_rfl) (by kernel_rfl) (by kernel_rfl) (fun _ _ _ h => h) (by rfl) (by assumption) ?_ ?_; rotate_left; · (intro w hSw; (try dsimp only at hSw); go_simp; (first | done | with_reducible rfl))))
        (try simp only [Act.put, List.setIfInBounds_toArray, List.set_cons_zero, List.set_cons_succ])
        ((refine takeYZ 5 (by kernel_rfl) (v := ?_) rfl (by kernel_rfl) (by kernel_rfl) (by kernel_rfl) (fun _ _ _ h => h) (by rfl) (by assumption) ?_ ?_; rotate_left; · (intro w hSw; (try dsimp only at hSw); go_simp; (first | done | with_reducible rfl))))
        (try simp only [Act.put, List.setIfInBounds_toArray, List.set_cons_zero, List.set_cons_succ])
        ((refine takeYZ 6 (by kernel_rfl) (v := ?_) rfl (by kernel_rfl) (by kernel_rfl) (by kernel_rfl) (fun _ _ _ h => h) (by rfl) (by assumption) ?_ ?_; rotate_left; · (intro w hSw; (try dsimp only at hSw); go_simp; (first | done | with_reducible rfl))))
        (try simp only [Act.put, List.setIfInBounds_toArray, List.set_cons_zero, List.set_cons_succ])
        refine endZ rfl (by kernel_rfl) (by kernel_rfl) (by rfl) (fun K hK => ?_)
        go_simp
        refine hK.out _ _ ?_
        clear hK K hHeld
        go_wp2
        go_ret
        refine ⟨rfl, _, ⟨H4.out, fun j b' hj => ?_⟩, ?_, fun j b' hj => .inl ⟨j, hj⟩⟩
        · by_cases e : j = k
          · exact ⟨p, by simp [e]⟩
          · obtain ⟨q, hq⟩ := HH.out.som j b' hj
            exact ⟨q, by simp [e, hq]⟩
        · rcases HB9.out with ⟨j, hj⟩ | hge
          · exact HO3'.out.trans (HO4.out.mono (fun g e => .inr ⟨j, by rw [e]; exact hj⟩))
          · exact HO3'.out.below (HO4.out.to_below (B := b) (fun k e => by rw [e]; exact Nat.le_refl _) (Nat.le_of_lt HLT.out)) (fun k h1 h2 => by exfalso; omega)
    · rw [hu] at CH
      rw [if_pos rfl]
      have hsame : (fun j q => if j = k ∧ q = p then true else u j q) = u := by
        funext j q
        by_cases e : j = k ∧ q = p
        · rw [if_pos e, e.1, e.2, hu]
        · rw [if_neg e]
      rw [hsame]
      clear hsame hu
      go_enter Try.func7, Try.ntmps7
      go_wp2_with fail
      refine CH.mono ?_; rintro e w1 ⟨rfl, hb1⟩
      have HS := Lib.hid (RmTo.same HH.out (HB.out.trans (hb1.mono HB.out.size)) (show N ≤ N + 2 by omega))
      clear hb1 HA HB HG CH
      go_wp2
      go_ret
      exact ⟨rfl, HS.out⟩
end
end Go.Proofs.Ytdnfjpelhiniaaa
