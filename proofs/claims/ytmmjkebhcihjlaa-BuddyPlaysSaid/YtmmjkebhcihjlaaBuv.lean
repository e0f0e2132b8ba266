/- Package buddy: New. -/
import Derived.Test.YtmmjkebhcihjlaaBux
namespace Go.Proofs.Ytmmjkebhcihjlaa
open Go.RowKit

theorem bnew_bad (x y : Int) (w : World) (h : x < 0 ∨ 1048576 < x ∨ y < 0 ∨ 1048576 - x < y) :
    Calls Try.prog 9 #[.int .i64 x, .int .i64 y] w fun e w' => e = .returned (.tuple #[.pointer none, .int .i64 1]) ∧ w = w' := by
  by_cases a0 : x < 0
  · have g0 : decide (x < 0) = true := by simp; omega
    clear h
    go_enter Try.func9, Try.ntmps9
    go_wp2
    go_ret2
    exact ⟨rfl, rfl⟩
  · have g0 : decide (x < 0) = false := by simp; omega
    by_cases a1 : (1048576 : Int) < x
    · have g1 : decide ((1048576 : Int) < x) = true := by simp; omega
      clear h
      go_enter Try.func9, Try.ntmps9
      go_wp2
      go_ret2
      exact ⟨rfl, rfl⟩
    · have g1 : decide ((1048576 : Int) < x) = false := by simp; omega
      by_cases a2 : y < 0
      · have g2 : decide (y < 0) = true := by simp; omega
        clear h
        go_enter Try.func9, Try.ntmps9
        go_wp2
        go_ret2
        exact ⟨rfl, rfl⟩
      · have g2 : decide (y < 0) = false := by simp; omega
        have g3 : decide ((1048576 : Int) - x < y) = true := by simp; omega
        clear h
        go_enter Try.func9, Try.ntmps9
        go_wp2
        go_ret2
        exact ⟨rfl, rfl⟩

/-- The frames that New makes free. -/
def seg (x n : Nat) : Nat → Bool := fun k => decide (x ≤ k) && decide (k < x + n)

def NwR (w : World) (c x n en : Nat) (v : Value) (wr : World) : Prop :=
  ∃ (a : Nat) (vs : Nat → Value) (R : Nat → List Int), v = .int .i64 a ∧ x ≤ a ∧ Bud.Cut (seg x n) a ∧ Bdy wr c (w.heap.size + 1) x en n vs R (fun g p => Bud.Mx (seg x n) g p ∧ g < a) ∧ Below w.heap.size w wr

/-- What holds at New's label. -/
def JN (w : World) (c x n en a : Nat) (a' : Act) (w' : World) : Prop :=
  ∃ (o : Nat) (vs : Nat → Value) (R : Nat → List Int), Bud.Grd (seg x n) a o ∧ Bdy w' c (w.heap.size + 1) x en n vs R (fun g p => Bud.Mx (seg x n) g p ∧ g < a) ∧ Below w.heap.size w w' ∧ ∃ u39 u40 u41 u42 u43 u44 u45 u46 u47 u48 u49 u50 u51 u52 u53 u54 u55 u56 u57 u58 u59 u60 u61 u62 u63 u64 u65 u66 u67 u68 u69 u70 u71 u72 u73 u74 u75 u76 u77 u78 u79, a' = { tmps := #[.int .i64 (x : Int), .int .i64 (n : Int), undef, undef, .pointer none, .int .i64 0, .pointer (some ⟨c, 0, none⟩), .int .i64 (a : Int), .int .i64 (o : Int), .int .i64 (x : Int), .bool false, .bool false, .int .i64 (x : Int), .bool false, .bool false, .bool false, .int .i64 (n : Int), .bool false, .bool false, .bool false, .int .i64 (n : Int), .int .i64 (x : Int), .int .i64 (1048576 - (x : Int)), .bool false, .bool false, .int .i64 (x : Int), .int .i64 (x : Int), .int .i64 (n : Int), .int .i64 (en : Int), .int .i64 (n : Int), .agg #[.int .i64 (x : Int), .int .i64 (en : Int), .slice none 0 0, .slice none 0 0, .slice none 0 0, .slice none 0 0, .slice none 0 0, .slice none 0 0, .slice none 0 0, .slice none 0 0, .slice none 0 0, .slice none 0 0, .int .i64 (n : Int)], .pointer (some ⟨c, 0, none⟩), .int .i64 (x : Int), .int .i64 (a : Int), .pointer (some ⟨c, 0, none⟩), .pointer (some ⟨c, 0, none⟩), .pointer (some ⟨c, 1, none⟩), .int .i64 (en : Int), .bool true, u39, u40, u41, u42, u43, u44, u45, u46, u47, u48, u49, u50, u51, u52, u53, u54, u55, u56, u57, u58, u59, u60, u61, u62, u63, u64, u65, u66, u67, u68, u69, u70, u71, u72, u73, u74, u75, u76, u77, u78, u79, undef], defers := [] }

theorem infoI : (Try.prog.info? 3).map (fun i => (i.zero, i.size, i.bytes)) = some (some (.int .i64 0), 1, 8) := by kernel_rfl

theorem Reads.of_blk1 {w : World} {g : Nat} {t : TypeId} {v : Value} (h : Blk w g t #[v]) : Reads w w.heap.size 1 (some ⟨g, 0, none⟩) 1 [v] := by
  refine ⟨rfl, fun _ => ⟨_, rfl, h.lt, fun j u hj => ?_⟩⟩
  cases j with
  | zero => cases hj; exact (h.cell 0).trans rfl
  | succ j => cases hj

theorem BSet.add {M : Nat → Nat → Prop} {R : Nat → List Int} (h : BSet M R) {f o : Nat} (ho : o < 10) (hf : f < 2097152) (hlt : ∀ g, M g o → g < f) : BSet (fun g p => M g p ∨ (g = f ∧ p = o)) (upd R o (R o ++ [(f : Int)])) := by
  refine ⟨fun p hp => ?_, fun p hp x => ?_, fun g p hp hm => ?_⟩
  · unfold upd
    by_cases e : p = o
    · rw [if_pos e, List.pairwise_append]
      refine ⟨h.srt o ho, List.pairwise_singleton .., fun a ha b hb => ?_⟩
      obtain ⟨g, e1, hg⟩ := (h.mem o ho a).1 ha
      have := hlt g hg
      have := List.mem_singleton.1 hb
      omega
    · rw [if_neg e]; exact h.srt p hp
  · unfold upd
    by_cases e : p = o
    · subst e
      rw [if_pos rfl, List.mem_append, List.mem_singleton, h.mem p hp x]
      constructor
      · rintro (⟨g, e1, hg⟩ | e1)
        · exact ⟨g, e1, .inl hg⟩
        · exact ⟨f, e1, .inr ⟨rfl, rfl⟩⟩
      · rintro ⟨g, e1, hg | ⟨rfl, _⟩⟩
        · exact .inl ⟨g, e1, hg⟩
        · exact .inr e1
    · rw [if_neg e, h.mem p hp x]
      constructor
      · rintro ⟨g, e1, hg⟩; exact ⟨g, e1, .inl hg⟩
      · rintro ⟨g, e1, hg | ⟨_, e2⟩⟩
        · exact ⟨g, e1, hg⟩
        · exact absurd e2 e
  · rcases hm with hm | ⟨rfl, _⟩
    · exact h.rng g p hp hm
    · exact hf

theorem seg_iff {x n k : Nat} : seg x n k = true ↔ x ≤ k ∧ k < x + n := by unfold seg; rw [Bool.and_eq_true, decide_eq_true_eq, decide_eq_true_eq]

section
open Go
theorem wp_scope_once {P : Program} {a : Act} {w : World} {Q : Exit → Act → World → Prop} {c rest : Code} (l : Nat) (J : Act → World → Prop) (μ : Act → World → Nat) (hf : findLabel c l = some (.seq .skip rest))
    (pass : ∀ a w, J a w → rest.wp P (Exit.jump l (fun a' w' => J a' w' ∧ μ a' w' < μ a w) Q) a w)
    (first : (∀ a w, J a w → rest.wp P (Exit.jump l J Q) a w) → c.wp P (Exit.jump l J Q) a w) : (Code.scope c).wp P Q a w :=
  wp_scope_jumps l J μ hf (first fun a w h => wp_mono (pass a w h) (fun e a' w' h' => by
    cases e <;> first | exact h' | exact ⟨h'.1, h'.2.1⟩)) (fun a w h => wp_seq (wp_skip (pass a w h)))
end

set_option maxRecDepth 100000 in
set_option maxHeartbeats 4000000 in
theorem bnew_ok (x n : Nat) (w : World) (hx : x ≤ 1048576) (hn : n ≤ 1500) (hxn : x + n ≤ 1048576) :
    Calls Try.prog 9 #[.int .i64 x, .int .i64 n] w fun e w' => e = .returned (.tuple #[.pointer (some ⟨w.heap.size, 0, none⟩), .int .i64 0]) ∧ ∃ vs R, Bdy w' w.heap.size (w.heap.size + 1) x (x + n : Nat) n vs R (Bud.Mx (seg x n)) ∧ Below w.heap.size w w' := by
  have g1 : decide ((x : Int) < 0) = false := by simp
  have g2 : decide ((1048576 : Int) < (x : Int)) = false := by simp; omega
  have g3 : decide ((n : Int) < 0) = false := by simp
  have g4 : decide ((1048576 : Int) - (x : Int) < (n : Int)) = false := by simp; omega
  obtain ⟨en, hen, hen2, hen3⟩ : ∃ en : Nat, ((x : Int) + n) = (en : Int) ∧ en = x + n ∧ en ≤ 1048576 := ⟨x + n, by simp, rfl, hxn⟩
  rw [← hen2]
  have h0 : NwR w w.heap.size x n en (.int .i64 (x : Int)) (w.alloc (.cells (bcells x en (fun _ => .slice none 0 0) n) 54)) := by
    have hx2 : ((x : Int) < 2097152) := by omega
    refine ⟨x, fun _ => .slice none 0 0, fun _ => [], rfl, Nat.le_refl _, Bud.Cut.first (fun k hk => ?_), ⟨⟨Blk.new w _ _, fun o ho => World.ownsRow_nil _ _ _ _, by omega, fun o p _ _ _ => .inl rfl⟩, ⟨fun o ho => List.Pairwise.nil, fun o ho z => ⟨fun h => (by cases h), fun ⟨g, _, hg, h⟩ => ?_⟩, fun f o ho hm => ?_⟩, by rw [show (w.alloc (.cells (bcells x en (fun _ => .slice none 0 0) n) 54)).heap.size = w.heap.size + 1 from Array.size_push ..]; exact Nat.le_refl _⟩, (Below.refl _ _).alloc (Nat.le_refl _) _⟩
    · cases hs : seg x n k
      · rfl
      · have := seg_iff.1 hs; omega
    · exfalso
      have := seg_iff.1 (hg.all g (Nat.le_refl _) (by have := Bud.pow_pos o; omega))
      omega
    · have := hm.2; omega
  unfold bcells at h0
  have H0 := Lib.hid h0
  have HE := Lib.hid hen2
  clear h0 hen2
  obtain ⟨i0, hi0, hz0', hz1, hz2⟩ := info_parts infoI
  go_enter Try.func9, Try.ntmps9
  go_wp2_with fail
  go_loopw [7] (NwR w w.heap.size x n en) (fun v _ => x + n - cntI v)
  case atStart => exact H0.out
  case round =>
    clear H0
    obtain ⟨a, vs, R, rfl, hxa, hcut, hbd, hbe⟩ := hrel
    have HC := Lib.hid hcut
    have HD := Lib.hid hbd
    have HBL := Lib.hid hbe
    have d1 : wr.cell? ⟨w.heap.size, 1, none⟩ = some (.int .i64 (en : Int)) := hbd.at_.blk.cell 1
    clear hcut hbd hbe
    by_cases hlt : a < en
    · have e1 : decide ((a : Int) < (en : Int)) = true := by simp; exact hlt
      have HG := Lib.hid (Bud.Grd.start (S := seg x n) (seg_iff.2 ⟨hxa, by have := HE.out; omega⟩))
      go_wp2_with fail
      refine wp_scope_once 0 (JN w w.heap.size x n en a) (fun a' _ => 10 - cntI (a'.tmps.getD 8 undef)) rfl ?_ (fun hpass => ?_)
      · clear HG HD HBL d1
        rintro a' w1 ⟨o, vs, R, hg, hbd, hbe, u39, u40, u41, u42, u43, u44, u45, u46, u47, u48, u49, u50, u51, u52, u53, u54, u55, u56, u57, u58, u59, u60, u61, u62, u63, u64, u65, u66, u67, u68, u69, u70, u71, u72, u73, u74, u75, u76, u77, u78, u79, rfl⟩
        have HG := Lib.hid hg
        have HD := Lib.hid hbd
        have HBL := Lib.hid hbe
        have d1 : w1.cell? ⟨w.heap.size, 1, none⟩ = some (.int .i64 (en : Int)) := hbd.at_.blk.cell 1
        clear hg hbd hbe
        have ho9 := HG.out.le
        obtain ⟨t, ht, ht2, ht3, ht4⟩ : ∃ t : Nat, (2 : Int) * 2 ^ o = (t : Int) ∧ 0 < t ∧ t ≤ 1024 ∧ t = 2 ^ (o + 1) := ⟨2 ^ (o + 1), by rw [Nat.pow_succ, Nat.mul_comm]; simp, Nat.two_pow_pos _, by have := Bud.pow_le (show o + 1 ≤ 10 by omega); omega, rfl⟩
        have HT := Lib.hid ht4
        clear ht4
        have ht6 : ¬ t = 0 := by omega
        have ho10 : o < 10 := by omega
        obtain ⟨y, hy, hy2⟩ : ∃ y : Nat, (a : Int) + (t : Int) = (y : Int) ∧ y = a + t := ⟨a + t, by simp, rfl⟩
        have HY := Lib.hid hy2
        have hya : y ≤ a + 1024 := by omega
        clear hy2
        obtain ⟨r, hr, hr2⟩ : ∃ r : Nat, (a : Int) % (t : Int) = (r : Int) ∧ r = a % t := ⟨a % t, by simp, rfl⟩
        have HR := Lib.hid hr2
        clear hr2
        by_cases h9 : o < 9
        · have g5 : decide ((o : Int) + 1 < 10) = true := by simp; omega
          by_cases hm : r = 0
          · by_cases hye : y ≤ en
            · have g7 : decide (y ≤ en) = true := by simp; exact hye
              have g8 : decide ((y : Int) ≤ (en : Int)) = true := by simp; exact hye
              have g6 : decide ((r : Int) = 0) = true := by simp; omega
              have HGN := Lib.hid (show Bud.Grd (seg x n) a (o + 1) from ⟨by rw [← HT.out, ← HR.out]; exact hm, fun k k1 k2 => seg_iff.2 ⟨by omega, by have := HY.out; have := HT.out; have := HE.out; omega⟩, by omega⟩)
              go_wp2_with fail
              go_quiet (fail)
              go_wp2_with fail
              go_step3
              exact ⟨rfl, ⟨o + 1, _, _, HGN.out, HD.out.drewN nq, below_drewN HBL.out nq, _, _, _, _, _, _, _, _, _, _, _, _, _, _, _, _, _, _, _, _, _, _, _, _, _, _, _, _, _, _, _, _, _, _, _, _, _, _, _, _, _, rfl⟩, by simp [cntI]; omega⟩
            · have g7 : decide (y ≤ en) = false := by simp; omega
              have g8 : decide ((y : Int) ≤ (en : Int)) = false := by simp; omega
              have g6 : decide ((r : Int) = 0) = true := by simp; omega
              have HNO := Lib.hid (show o < 9 → ¬ (a % 2 ^ (o + 1) = 0 ∧ Bud.All (seg x n) a (o + 1)) from fun _ hc => by
                have := seg_iff.1 (hc.2 (y - 1) (by have := HY.out; omega) (by have := HY.out; have := HT.out; omega))
                have := HE.out
                omega)
              go_wp2_with fail
              go_quiet (fail)
              have HDN := Lib.hid (HD.out.drewN nq)
              have HBN := Lib.hid (below_drewN HBL.out nq)
              go_wp2_with fail
              generalize w1.drewN nq = w2 at *
              clear ht hr hy d1 HD HBL
              have c0 := HDN.out.at_.cr ho10
              have hoi : (o : Int) < 10 := by omega
              have SK := Lib.hid (show ∀ w', w2.drew.grownBy w' (vs o).ownBlock → w'.cell? ⟨w.heap.size, 2 + o, none⟩ = some (vs o) ∧ w'.frozen? ⟨w.heap.size, 2 + o, none⟩ = false from fun w' hg => by
                have hb : Blk w' w.heap.size 54 (bcells x en vs n) := HDN.out.at_.blk.drew.grown hg (fun e => by
                  have := ((HDN.out.at_.own o (by omega)).lt _ e.symm).1
                  omega)
                exact ⟨by rw [hb.cell, bcells_get (by omega)], hb.frozen _⟩)
              refine beginZ (z := 14) (S := (fun w' => w'.cell? ⟨w.heap.size, 2 + o, none⟩ = some (vs o) ∧ w'.frozen? ⟨w.heap.size, 2 + o, none⟩ = false)) (by kernel_rfl) ?_ (fun hHeld => ?_)
              · exact SK.out _ (World.grownBy.refl _ _)
              have HDZ := Lib.hid (show Bdy w2.drew w.heap.size (w.heap.size + 1) x en n vs R (fun g p => Bud.Mx (seg x n) g p ∧ g < a) from HDN.out.drewN 1)
              have HBZ := Lib.hid (show Below w.heap.size w w2.drew from HBN.out.drew)
              generalize w2.drew = w0 at *
              ((refine takeYZ 0 (by kernel_rfl) (v := ?_) rfl (by kernel_rfl) (by kernel_rfl) (by kernel_rfl) (fun _ _ _ h => h) (by rfl) (by assumption) ?_ ?_; rotate_left; · (intro w hSw; (try dsimp only at hSw); go_simp; (first | done | with_reducible rfl))))
              (try simp only [Act.put, List.setIfInBounds_toArray, List.set_cons_zero, List.set_cons_succ])
              ((refine takeYZ 1 (by kernel_rfl) (v := ?_) rfl (by kernel_rfl) (by kernel_rfl) (by kernel_rfl) (fun _ _ _ h => h) (by rfl) (by assumption) ?_ ?_; rotate_left; · (intro w hSw; (try dsimp only at hSw); go_simp; (first | done | with_reducible rfl))))
              (try simp only [Act.put, List.setIfInBounds_toArray, List.set_cons_zero, List.set_cons_succ])
              ((refine takeYZ 2 (by kernel_rfl) (v := ?_) rfl (by kernel_rfl) (by kernel_rfl) (by kernel_rfl) (fun _ _ _ h => h) (by rfl) (by assumption) ?_ ?_; rotate_left; · (intro w hSw; (try dsimp only at hSw); go_simp; (first | done | with_reducible rfl))))
              (try simp only [Act.put, List.setIfInBounds_toArray, List.set_cons_zero, List.set_cons_succ])
              ((refine takeYZ 3 (by kernel_rfl) (v := ?_) rfl (by kernel_rfl) (by kernel_rfl) (by kernel_rfl) (fun _ _ _ h => h) (by rfl) (by assumption) ?_ ?_; rotate_left; · (intro w hSw; (try dsimp only at hSw); go_simp; (first | done | with_reducible rfl))))
              (try simp only [Act.put, List.setIfInBounds_toArray, List.set_cons_zero, List.set_cons_succ])
              ((refine takeYZ 4 (by kernel_rfl) (v := ?_) rfl (by kernel_rfl) (by kernel_rfl) (by kernel_rfl) (fun _ _ _ h => h) (by rfl) (by assumption) ?_ ?_; rotate_left; · (intro w hSw; (try dsimp only at hSw); go_simp; (first | done | with_reducible rfl))))
              (try simp only [Act.put, List.setIfInBounds_toArray, List.set_cons_zero, List.set_cons_succ])
              ((refine takeYZ 5 (by kernel_rfl) (v := ?_) rfl (by kernel_rfl) (by kernel_rfl) (by kernel_rfl) (fun _ _ _ h => h) (by rfl) (by assumption) ?_ ?_; rotate_left; · (intro w hSw; (try dsimp only at hSw); go_simp; (first | done | with_reducible rfl))))
              (try simp only [Act.put, List.setIfInBounds_toArray, List.set_cons_zero, List.set_cons_succ])
              ((refine takeYZ 6 (by kernel_rfl) (v := ?_) rfl (by kernel_rfl) (by kernel_rfl) (by kernel_rfl) (fun _ _ _ h => h) (by rfl) (by assumption) ?_ ?_; rotate_left; · (intro w hSw; (try dsimp only at hSw); go_simp; (first | done | with_reducible rfl))))
              (try simp only [Act.put, List.setIfInBounds_toArray, List.set_cons_zero, List.set_cons_succ])
              ((refine takeYZ 7 (by kernel_rfl) (v := ?_) rfl (by kernel_rfl) (by kernel_rfl) (by kernel_rfl) (fun _ _ _ h => h) (by rfl) (by assumption) ?_ ?_; rotate_left; · (intro w hSw; (try dsimp only at hSw); go_simp; (first | done | with_reducible rfl))))
              (try simp only [Act.put, List.setIfInBounds_toArray, List.set_cons_zero, List.set_cons_succ])
              ((refine takeYZ 8 (by kernel_rfl) (v := ?_) rfl (by kernel_rfl) (by kernel_rfl) (by kernel_rfl) (fun _ _ _ h => h) (by rfl) (by assumption) ?_ ?_; rotate_left; · (intro w hSw; (try dsimp only at hSw); go_simp; (first | done | with_reducible rfl))))
              (try simp only [Act.put, List.setIfInBounds_toArray, List.set_cons_zero, List.set_cons_succ])
              refine readyZ (rs := [9, 11]) (by kernel_rfl) (by simp) ?_
              refine consZ 9 rfl (by rfl) (fun K hK => ?_) (consZ 11 rfl (by rfl) (fun K hK => ?_) (nilZ))
              · go_simp
                (refine hK.out _ _ ?_ (fun hHeld => ?_))
                · exact SK.out _ (only_of_below ((Below.refl _ _).alloc (Nat.le_refl _) _) _)
                clear hK K
                have HC2 := Lib.hid (Blk.new w0 3 #[iv a])
                have HGA := Lib.hid (only_of_below ((Below.refl w0.heap.size w0).alloc (Nat.le_refl _) (.cells #[iv a] 3)) (vs o).ownBlock)
                have HGB := Lib.hid (only_of_below ((Below.refl w0.heap.size w0).alloc (Nat.le_refl _) (.cells #[iv a] 3)) none)
                generalize hwn : w0.alloc (.cells #[iv a] 3) = wa at *
                clear hwn
                refine readyZ (rs := [10, 11]) (by kernel_rfl) (by simp) ?_
                refine consZ 10 rfl (by rfl) (fun K hK => ?_) (consZ 11 rfl (by rfl) (fun K hK => ?_) (nilZ))
                · (refine wp_append_any _ (.tmp 69) (.tmp 71) _ rfl (w.heap.size + 1) 3 i0 _ 1 8 Try.underlying47 hi0 hz0' hz1 hz2 rfl (by omega) _ (R o).length _ rfl ((HDZ.out.at_.own o (by omega)).kept HGB.out (by cases (vs o).ownBlock with | none => exact .inl rfl | some g => exact .inr (fun e => by cases e))) _ (some ⟨w0.heap.size, 0, none⟩) 1 _ [iv a] rfl (Reads.of_blk1 HC2.out) (by simp; rfl) (by have := HDZ.out.set.len ho10; unfold maxLen; omega) (by have := HDZ.out.set.len ho10; omega) (Nat.le_trans HDZ.out.room HGA.out.size) ?_; intro v2 w3 hown2 hg2 hat2)
                  (refine hK.out _ _ ?_ (fun hHeld => ?_))
                  · exact SK.out _ (grownBy_tr3 (World.grownBy.refl w0 _) HGA.out hg2)
                  clear hK K
                  have HG2 := Lib.hid (grownBy_tr3 (World.grownBy.refl w0 _) HGA.out hg2)
                  have HOW := Lib.hid hown2
                  have HFR := Lib.hid (show v2.ownBlock = (vs o).ownBlock ∨ ∃ g, v2.ownBlock = some g ∧ w0.heap.size ≤ g from by
                    rcases hat2 with h | h
                    · exact .inl h
                    · exact .inr ⟨_, h, HGA.out.size⟩)
                  clear hown2 hg2 hat2
                  refine stepZ 11 rfl (by kernel_rfl) (by rfl) (fun K hK => ?_)
                  go_simp
                  refine hK.out _ _ hHeld (fun hHeld => ?_)
                  clear hK K
                  refine stepZ 12 rfl (by kernel_rfl) (by rfl) (fun K hK => ?_)
                  go_simp
                  refine hK.out _ _ hHeld (fun hHeld => ?_)
                  clear hK K
                  ((refine takeYZ 13 (by kernel_rfl) (v := ?_) rfl (by kernel_rfl) (by kernel_rfl) (by kernel_rfl) (fun _ _ _ h => h) (by rfl) (by assumption) ?_ ?_; rotate_left; · (intro w hSw; (try dsimp only at hSw); go_simp; (first | done | with_reducible rfl))))
                  (try simp only [Act.put, List.setIfInBounds_toArray, List.set_cons_zero, List.set_cons_succ])
                  refine endZ rfl (by kernel_rfl) (by kernel_rfl) (by rfl) (fun K hK => ?_)
                  obtain ⟨hq1, hq2⟩ := hHeld
                  obtain ⟨Av, nv, cv, rfl⟩ := own_form HOW.out
                  go_simp
                  refine hK.out _ _ ?_
                  clear hK K hq1 hq2
                  have HF := Lib.hid (HDZ.out.at_.put ho10 HG2.out (v := .slice Av nv cv) (xs := R o ++ [(a : Int)]) (by
                    rw [List.length_append, List.map_append]
                    exact HOW.out) HFR.out)
                  generalize World.setCell _ _ _ = w4 at *
                  have HMX := HG.out.done HC.out HNO.out
                  have HSN := Lib.hid (show BSet (fun g p => Bud.Mx (seg x n) g p ∧ g < a + 2 ^ o) (upd R o (R o ++ [(a : Int)])) from (HDZ.out.set.add ho10 (show a < 2097152 by omega) (fun g hg => hg.2)).congr (fun g p => by
                    have hpo := Bud.pow_pos o
                    constructor
                    · rintro ⟨hm, hlt2⟩
                      by_cases e : g < a
                      · exact .inl ⟨hm, e⟩
                      · have := Bud.pow_pos p
                        exact .inr (hm.unique HMX.1 (Nat.le_refl g) (by omega) (by omega) hlt2)
                    · rintro (⟨hm, h2⟩ | ⟨rfl, rfl⟩)
                      · exact ⟨hm, by omega⟩
                      · exact ⟨HMX.1, by omega⟩))
                  have HCN := Lib.hid HMX.2
                  clear HMX
                  obtain ⟨t1, ht1, ht2', ht3'⟩ : ∃ t1 : Nat, (2 : Int) ^ o = (t1 : Int) ∧ t1 = 2 ^ o ∧ t1 ≤ 512 := ⟨2 ^ o, by simp, rfl, by have := Bud.pow_le (show o ≤ 9 by omega); omega⟩
                  have HT1 := Lib.hid ht2'
                  have htp : 0 < t1 := by rw [ht2']; exact Nat.two_pow_pos _
                  clear ht2'
                  go_wp2
                  simp only [Exit.jump]
                  go_roundw
                  case rel => exact ⟨_, _, _, _, _, _, _, _, _, _, _, _, _, _, _, _, _, _, _, _, _, _, _, _, _, _, _, _, _, _, _, _, _, _, _, _, _, _, _, _, _, _, _, _, _, _, _, _, _, ⟨a + t1, _, _, by simp, by omega, by rw [HT1.out]; exact HCN.out, ⟨HF.out.1, by rw [HT1.out]; exact HSN.out, Nat.le_trans HDZ.out.room HF.out.2.size⟩, HBZ.out.trans (HF.out.2.to_below (fun k hk => by
                    rcases hk with rfl | ⟨p, hp, e⟩
                    · exact Nat.le_refl _
                    · have := ((HDZ.out.at_.own p hp).lt k e).1
                      omega) HBZ.out.size)⟩, rfl⟩
                  case measure => simp [cntI]; omega
                · go_simp
                  refine hK.out _ _ hHeld (fun hHeld => ?_)
                  clear hK K
                  refine readyZ (rs := [10, 12]) (by kernel_rfl) (by simp) ?_
                  refine consZ 10 rfl (by rfl) (fun K hK => ?_) (consZ 12 rfl (by rfl) (fun K hK => ?_) (nilZ))
                  · (refine wp_append_any _ (.tmp 69) (.tmp 71) _ rfl (w.heap.size + 1) 3 i0 _ 1 8 Try.underlying47 hi0 hz0' hz1 hz2 rfl (by omega) _ (R o).length _ rfl ((HDZ.out.at_.own o (by omega)).kept HGB.out (by cases (vs o).ownBlock with | none => exact .inl rfl | some g => exact .inr (fun e => by cases e))) _ (some ⟨w0.heap.size, 0, none⟩) 1 _ [iv a] rfl (Reads.of_blk1 HC2.out) (by simp; rfl) (by have := HDZ.out.set.len ho10; unfold maxLen; omega) (by have := HDZ.out.set.len ho10; omega) (Nat.le_trans HDZ.out.room HGA.out.size) ?_; intro v2 w3 hown2 hg2 hat2)
                    (refine hK.out _ _ ?_ (fun hHeld => ?_))
                    · exact SK.out _ (grownBy_tr3 (World.grownBy.refl w0 _) HGA.out hg2)
                    clear hK K
                    have HG2 := Lib.hid (grownBy_tr3 (World.grownBy.refl w0 _) HGA.out hg2)
                    have HOW := Lib.hid hown2
                    have HFR := Lib.hid (show v2.ownBlock = (vs o).ownBlock ∨ ∃ g, v2.ownBlock = some g ∧ w0.heap.size ≤ g from by
                      rcases hat2 with h | h
                      · exact .inl h
                      · exact .inr ⟨_, h, HGA.out.size⟩)
                    clear hown2 hg2 hat2
                    refine stepZ 12 rfl (by kernel_rfl) (by rfl) (fun K hK => ?_)
                    go_simp
                    refine hK.out _ _ hHeld (fun hHeld => ?_)
                    clear hK K
                    ((refine takeYZ 13 (by kernel_rfl) (v := ?_) rfl (by kernel_rfl) (by kernel_rfl) (by kernel_rfl) (fun _ _ _ h => h) (by rfl) (by assumption) ?_ ?_; rotate_left; · (intro w hSw; (try dsimp only at hSw); go_simp; (first | done | with_reducible rfl))))
                    (try simp only [Act.put, List.setIfInBounds_toArray, List.set_cons_zero, List.set_cons_succ])
                    refine endZ rfl (by kernel_rfl) (by kernel_rfl) (by rfl) (fun K hK => ?_)
                    obtain ⟨hq1, hq2⟩ := hHeld
                    obtain ⟨Av, nv, cv, rfl⟩ := own_form HOW.out
                    go_simp
                    refine hK.out _ _ ?_
                    clear hK K hq1 hq2
                    have HF := Lib.hid (HDZ.out.at_.put ho10 HG2.out (v := .slice Av nv cv) (xs := R o ++ [(a : Int)]) (by
                      rw [List.length_append, List.map_append]
                      exact HOW.out) HFR.out)
                    generalize World.setCell _ _ _ = w4 at *
                    have HMX := HG.out.done HC.out HNO.out
                    have HSN := Lib.hid (show BSet (fun g p => Bud.Mx (seg x n) g p ∧ g < a + 2 ^ o) (upd R o (R o ++ [(a : Int)])) from (HDZ.out.set.add ho10 (show a < 2097152 by omega) (fun g hg => hg.2)).congr (fun g p => by
                      have hpo := Bud.pow_pos o
                      constructor
                      · rintro ⟨hm, hlt2⟩
                        by_cases e : g < a
                        · exact .inl ⟨hm, e⟩
                        · have := Bud.pow_pos p
                          exact .inr (hm.unique HMX.1 (Nat.le_refl g) (by omega) (by omega) hlt2)
                      · rintro (⟨hm, h2⟩ | ⟨rfl, rfl⟩)
                        · exact ⟨hm, by omega⟩
                        · exact ⟨HMX.1, by omega⟩))
                    have HCN := Lib.hid HMX.2
                    clear HMX
                    obtain ⟨t1, ht1, ht2', ht3'⟩ : ∃ t1 : Nat, (2 : Int) ^ o = (t1 : Int) ∧ t1 = 2 ^ o ∧ t1 ≤ 512 := ⟨2 ^ o, by simp, rfl, by have := Bud.pow_le (show o ≤ 9 by omega); omega⟩
                    have HT1 := Lib.hid ht2'
                    have htp : 0 < t1 := by rw [ht2']; exact Nat.two_pow_pos _
                    clear ht2'
                    go_wp2
                    simp only [Exit.jump]
                    go_roundw
                    case rel => exact ⟨_, _, _, _, _, _, _, _, _, _, _, _, _, _, _, _, _, _, _, _, _, _, _, _, _, _, _, _, _, _, _, _, _, _, _, _, _, _, _, _, _, _, _, _, _, _, _, _, _, ⟨a + t1, _, _, by simp, by omega, by rw [HT1.out]; exact HCN.out, ⟨HF.out.1, by rw [HT1.out]; exact HSN.out, Nat.le_trans HDZ.out.room HF.out.2.size⟩, HBZ.out.trans (HF.out.2.to_below (fun k hk => by
                      rcases hk with rfl | ⟨p, hp, e⟩
                      · exact Nat.le_refl _
                      · have := ((HDZ.out.at_.own p hp).lt k e).1
                        omega) HBZ.out.size)⟩, rfl⟩
                    case measure => simp [cntI]; omega
                  · go_simp
                    refine hK.out _ _ hHeld (fun hHeld => ?_)
                    clear hK K
                    refine stepZ 10 rfl (by kernel_rfl) (by rfl) (fun K hK => ?_)
                    (refine wp_append_any _ (.tmp 69) (.tmp 71) _ rfl (w.heap.size + 1) 3 i0 _ 1 8 Try.underlying47 hi0 hz0' hz1 hz2 rfl (by omega) _ (R o).length _ rfl ((HDZ.out.at_.own o (by omega)).kept HGB.out (by cases (vs o).ownBlock with | none => exact .inl rfl | some g => exact .inr (fun e => by cases e))) _ (some ⟨w0.heap.size, 0, none⟩) 1 _ [iv a] rfl (Reads.of_blk1 HC2.out) (by simp; rfl) (by have := HDZ.out.set.len ho10; unfold maxLen; omega) (by have := HDZ.out.set.len ho10; omega) (Nat.le_trans HDZ.out.room HGA.out.size) ?_; intro v2 w3 hown2 hg2 hat2)
                    (refine hK.out _ _ ?_ (fun hHeld => ?_))
                    · exact SK.out _ (grownBy_tr3 (World.grownBy.refl w0 _) HGA.out hg2)
                    clear hK K
                    have HG2 := Lib.hid (grownBy_tr3 (World.grownBy.refl w0 _) HGA.out hg2)
                    have HOW := Lib.hid hown2
                    have HFR := Lib.hid (show v2.ownBlock = (vs o).ownBlock ∨ ∃ g, v2.ownBlock = some g ∧ w0.heap.size ≤ g from by
                      rcases hat2 with h | h
                      · exact .inl h
                      · exact .inr ⟨_, h, HGA.out.size⟩)
                    clear hown2 hg2 hat2
                    ((refine takeYZ 13 (by kernel_rfl) (v := ?_) rfl (by kernel_rfl) (by kernel_rfl) (by kernel_rfl) (fun _ _ _ h => h) (by rfl) (by assumption) ?_ ?_; rotate_left; · (intro w hSw; (try dsimp only at hSw); go_simp; (first | done | with_reducible rfl))))
                    (try simp only [Act.put, List.setIfInBounds_toArray, List.set_cons_zero, List.set_cons_succ])
                    refine endZ rfl (by kernel_rfl) (by kernel_rfl) (by rfl) (fun K hK => ?_)
                    obtain ⟨hq1, hq2⟩ := hHeld
                    obtain ⟨Av, nv, cv, rfl⟩ := own_form HOW.out
                    go_simp
                    refine hK.out _ _ ?_
                    clear hK K hq1 hq2
                    have HF := Lib.hid (HDZ.out.at_.put ho10 HG2.out (v := .slice Av nv cv) (xs := R o ++ [(a : Int)]) (by
                      rw [List.length_append, List.map_append]
                      exact HOW.out) HFR.out)
                    generalize World.setCell _ _ _ = w4 at *
                    have HMX := HG.out.done HC.out HNO.out
                    have HSN := Lib.hid (show BSet (fun g p => Bud.Mx (seg x n) g p ∧ g < a + 2 ^ o) (upd R o (R o ++ [(a : Int)])) from (HDZ.out.set.add ho10 (show a < 2097152 by omega) (fun g hg => hg.2)).congr (fun g p => by
                      have hpo := Bud.pow_pos o
                      constructor
                      · rintro ⟨hm, hlt2⟩
                        by_cases e : g < a
                        · exact .inl ⟨hm, e⟩
                        · have := Bud.pow_pos p
                          exact .inr (hm.unique HMX.1 (Nat.le_refl g) (by omega) (by omega) hlt2)
                      · rintro (⟨hm, h2⟩ | ⟨rfl, rfl⟩)
                        · exact ⟨hm, by omega⟩
                        · exact ⟨HMX.1, by omega⟩))
                    have HCN := Lib.hid HMX.2
                    clear HMX
                    obtain ⟨t1, ht1, ht2', ht3'⟩ : ∃ t1 : Nat, (2 : Int) ^ o = (t1 : Int) ∧ t1 = 2 ^ o ∧ t1 ≤ 512 := ⟨2 ^ o, by simp, rfl, by have := Bud.pow_le (show o ≤ 9 by omega); omega⟩
                    have HT1 := Lib.hid ht2'
                    have htp : 0 < t1 := by rw [ht2']; exact Nat.two_pow_pos _
                    clear ht2'
                    go_wp2
                    simp only [Exit.jump]
                    go_roundw
                    case rel => exact ⟨_, _, _, _, _, _, _, _, _, _, _, _, _, _, _, _, _, _, _, _, _, _, _, _, _, _, _, _, _, _, _, _, _, _, _, _, _, _, _, _, _, _, _, _, _, _, _, _, _, ⟨a + t1, _, _, by simp, by omega, by rw [HT1.out]; exact HCN.out, ⟨HF.out.1, by rw [HT1.out]; exact HSN.out, Nat.le_trans HDZ.out.room HF.out.2.size⟩, HBZ.out.trans (HF.out.2.to_below (fun k hk => by
                      rcases hk with rfl | ⟨p, hp, e⟩
                      · exact Nat.le_refl _
                      · have := ((HDZ.out.at_.own p hp).lt k e).1
                        omega) HBZ.out.size)⟩, rfl⟩
                    case measure => simp [cntI]; omega
              · go_simp
                refine hK.out _ _ hHeld (fun hHeld => ?_)
                clear hK K
                refine readyZ (rs := [9, 12]) (by kernel_rfl) (by simp) ?_
                refine consZ 9 rfl (by rfl) (fun K hK => ?_) (consZ 12 rfl (by rfl) (fun K hK => ?_) (nilZ))
                · go_simp
                  (refine hK.out _ _ ?_ (fun hHeld => ?_))
                  · exact SK.out _ (only_of_below ((Below.refl _ _).alloc (Nat.le_refl _) _) _)
                  clear hK K
                  have HC2 := Lib.hid (Blk.new w0 3 #[iv a])
                  have HGA := Lib.hid (only_of_below ((Below.refl w0.heap.size w0).alloc (Nat.le_refl _) (.cells #[iv a] 3)) (vs o).ownBlock)
                  have HGB := Lib.hid (only_of_below ((Below.refl w0.heap.size w0).alloc (Nat.le_refl _) (.cells #[iv a] 3)) none)
                  generalize hwn : w0.alloc (.cells #[iv a] 3) = wa at *
                  clear hwn
                  refine readyZ (rs := [10, 12]) (by kernel_rfl) (by simp) ?_
                  refine consZ 10 rfl (by rfl) (fun K hK => ?_) (consZ 12 rfl (by rfl) (fun K hK => ?_) (nilZ))
                  · (refine wp_append_any _ (.tmp 69) (.tmp 71) _ rfl (w.heap.size + 1) 3 i0 _ 1 8 Try.underlying47 hi0 hz0' hz1 hz2 rfl (by omega) _ (R o).length _ rfl ((HDZ.out.at_.own o (by omega)).kept HGB.out (by cases (vs o).ownBlock with | none => exact .inl rfl | some g => exact .inr (fun e => by cases e))) _ (some ⟨w0.heap.size, 0, none⟩) 1 _ [iv a] rfl (Reads.of_blk1 HC2.out) (by simp; rfl) (by have := HDZ.out.set.len ho10; unfold maxLen; omega) (by have := HDZ.out.set.len ho10; omega) (Nat.le_trans HDZ.out.room HGA.out.size) ?_; intro v2 w3 hown2 hg2 hat2)
                    (refine hK.out _ _ ?_ (fun hHeld => ?_))
                    · exact SK.out _ (grownBy_tr3 (World.grownBy.refl w0 _) HGA.out hg2)
                    clear hK K
                    have HG2 := Lib.hid (grownBy_tr3 (World.grownBy.refl w0 _) HGA.out hg2)
                    have HOW := Lib.hid hown2
                    have HFR := Lib.hid (show v2.ownBlock = (vs o).ownBlock ∨ ∃ g, v2.ownBlock = some g ∧ w0.heap.size ≤ g from by
                      rcases hat2 with h | h
                      · exact .inl h
                      · exact .inr ⟨_, h, HGA.out.size⟩)
                    clear hown2 hg2 hat2
                    refine stepZ 12 rfl (by kernel_rfl) (by rfl) (fun K hK => ?_)
                    go_simp
                    refine hK.out _ _ hHeld (fun hHeld => ?_)
                    clear hK K
                    ((refine takeYZ 13 (by kernel_rfl) (v := ?_) rfl (by kernel_rfl) (by kernel_rfl) (by kernel_rfl) (fun _ _ _ h => h) (by rfl) (by assumption) ?_ ?_; rotate_left; · (intro w hSw; (try dsimp only at hSw); go_simp; (first | done | with_reducible rfl))))
                    (try simp only [Act.put, List.setIfInBounds_toArray, List.set_cons_zero, List.set_cons_succ])
                    refine endZ rfl (by kernel_rfl) (by kernel_rfl) (by rfl) (fun K hK => ?_)
                    obtain ⟨hq1, hq2⟩ := hHeld
                    obtain ⟨Av, nv, cv, rfl⟩ := own_form HOW.out
                    go_simp
                    refine hK.out _ _ ?_
                    clear hK K hq1 hq2
                    have HF := Lib.hid (HDZ.out.at_.put ho10 HG2.out (v := .slice Av nv cv) (xs := R o ++ [(a : Int)]) (by
                      rw [List.length_append, List.map_append]
                      exact HOW.out) HFR.out)
                    generalize World.setCell _ _ _ = w4 at *
                    have HMX := HG.out.done HC.out HNO.out
                    have HSN := Lib.hid (show BSet (fun g p => Bud.Mx (seg x n) g p ∧ g < a + 2 ^ o) (upd R o (R o ++ [(a : Int)])) from (HDZ.out.set.add ho10 (show a < 2097152 by omega) (fun g hg => hg.2)).congr (fun g p => by
                      have hpo := Bud.pow_pos o
                      constructor
                      · rintro ⟨hm, hlt2⟩
                        by_cases e : g < a
                        · exact .inl ⟨hm, e⟩
                        · have := Bud.pow_pos p
                          exact .inr (hm.unique HMX.1 (Nat.le_refl g) (by omega) (by omega) hlt2)
                      · rintro (⟨hm, h2⟩ | ⟨rfl, rfl⟩)
                        · exact ⟨hm, by omega⟩
                        · exact ⟨HMX.1, by omega⟩))
                    have HCN := Lib.hid HMX.2
                    clear HMX
                    obtain ⟨t1, ht1, ht2', ht3'⟩ : ∃ t1 : Nat, (2 : Int) ^ o = (t1 : Int) ∧ t1 = 2 ^ o ∧ t1 ≤ 512 := ⟨2 ^ o, by simp, rfl, by have := Bud.pow_le (show o ≤ 9 by omega); omega⟩
                    have HT1 := Lib.hid ht2'
                    have htp : 0 < t1 := by rw [ht2']; exact Nat.two_pow_pos _
                    clear ht2'
                    go_wp2
                    simp only [Exit.jump]
                    go_roundw
                    case rel => exact ⟨_, _, _, _, _, _, _, _, _, _, _, _, _, _, _, _, _, _, _, _, _, _, _, _, _, _, _, _, _, _, _, _, _, _, _, _, _, _, _, _, _, _, _, _, _, _, _, _, _, ⟨a + t1, _, _, by simp, by omega, by rw [HT1.out]; exact HCN.out, ⟨HF.out.1, by rw [HT1.out]; exact HSN.out, Nat.le_trans HDZ.out.room HF.out.2.size⟩, HBZ.out.trans (HF.out.2.to_below (fun k hk => by
                      rcases hk with rfl | ⟨p, hp, e⟩
                      · exact Nat.le_refl _
                      · have := ((HDZ.out.at_.own p hp).lt k e).1
                        omega) HBZ.out.size)⟩, rfl⟩
                    case measure => simp [cntI]; omega
                  · go_simp
                    refine hK.out _ _ hHeld (fun hHeld => ?_)
                    clear hK K
                    refine stepZ 10 rfl (by kernel_rfl) (by rfl) (fun K hK => ?_)
                    (refine wp_append_any _ (.tmp 69) (.tmp 71) _ rfl (w.heap.size + 1) 3 i0 _ 1 8 Try.underlying47 hi0 hz0' hz1 hz2 rfl (by omega) _ (R o).length _ rfl ((HDZ.out.at_.own o (by omega)).kept HGB.out (by cases (vs o).ownBlock with | none => exact .inl rfl | some g => exact .inr (fun e => by cases e))) _ (some ⟨w0.heap.size, 0, none⟩) 1 _ [iv a] rfl (Reads.of_blk1 HC2.out) (by simp; rfl) (by have := HDZ.out.set.len ho10; unfold maxLen; omega) (by have := HDZ.out.set.len ho10; omega) (Nat.le_trans HDZ.out.room HGA.out.size) ?_; intro v2 w3 hown2 hg2 hat2)
                    (refine hK.out _ _ ?_ (fun hHeld => ?_))
                    · exact SK.out _ (grownBy_tr3 (World.grownBy.refl w0 _) HGA.out hg2)
                    clear hK K
                    have HG2 := Lib.hid (grownBy_tr3 (World.grownBy.refl w0 _) HGA.out hg2)
                    have HOW := Lib.hid hown2
                    have HFR := Lib.hid (show v2.ownBlock = (vs o).ownBlock ∨ ∃ g, v2.ownBlock = some g ∧ w0.heap.size ≤ g from by
                      rcases hat2 with h | h
                      · exact .inl h
                      · exact .inr ⟨_, h, HGA.out.size⟩)
                    clear hown2 hg2 hat2
                    ((refine takeYZ 13 (by kernel_rfl) (v := ?_) rfl (by kernel_rfl) (by kernel_rfl) (by kernel_rfl) (fun _ _ _ h => h) (by rfl) (by assumption) ?_ ?_; rotate_left; · (intro w hSw; (try dsimp only at hSw); go_simp; (first | done | with_reducible rfl))))
                    (try simp only [Act.put, List.setIfInBounds_toArray, List.set_cons_zero, List.set_cons_succ])
                    refine endZ rfl (by kernel_rfl) (by kernel_rfl) (by rfl) (fun K hK => ?_)
                    obtain ⟨hq1, hq2⟩ := hHeld
                    obtain ⟨Av, nv, cv, rfl⟩ := own_form HOW.out
                    go_simp
                    refine hK.out _ _ ?_
                    clear hK K hq1 hq2
                    have HF := Lib.hid (HDZ.out.at_.put ho10 HG2.out (v := .slice Av nv cv) (xs := R o ++ [(a : Int)]) (by
                      rw [List.length_append, List.map_append]
                      exact HOW.out) HFR.out)
                    generalize World.setCell _ _ _ = w4 at *
                    have HMX := HG.out.done HC.out HNO.out
                    have HSN := Lib.hid (show BSet (fun g p => Bud.Mx (seg x n) g p ∧ g < a + 2 ^ o) (upd R o (R o ++ [(a : Int)])) from (HDZ.out.set.add ho10 (show a < 2097152 by omega) (fun g hg => hg.2)).congr (fun g p => by
                      have hpo := Bud.pow_pos o
                      constructor
                      · rintro ⟨hm, hlt2⟩
                        by_cases e : g < a
                        · exact .inl ⟨hm, e⟩
                        · have := Bud.pow_pos p
                          exact .inr (hm.unique HMX.1 (Nat.le_refl g) (by omega) (by omega) hlt2)
                      · rintro (⟨hm, h2⟩ | ⟨rfl, rfl⟩)
                        · exact ⟨hm, by omega⟩
                        · exact ⟨HMX.1, by omega⟩))
                    have HCN := Lib.hid HMX.2
                    clear HMX
                    obtain ⟨t1, ht1, ht2', ht3'⟩ : ∃ t1 : Nat, (2 : Int) ^ o = (t1 : Int) ∧ t1 = 2 ^ o ∧ t1 ≤ 512 := ⟨2 ^ o, by simp, rfl, by have := Bud.pow_le (show o ≤ 9 by omega); omega⟩
                    have HT1 := Lib.hid ht2'
                    have htp : 0 < t1 := by rw [ht2']; exact Nat.two_pow_pos _
                    clear ht2'
                    go_wp2
                    simp only [Exit.jump]
                    go_roundw
                    case rel => exact ⟨_, _, _, _, _, _, _, _, _, _, _, _, _, _, _, _, _, _, _, _, _, _, _, _, _, _, _, _, _, _, _, _, _, _, _, _, _, _, _, _, _, _, _, _, _, _, _, _, _, ⟨a + t1, _, _, by simp, by omega, by rw [HT1.out]; exact HCN.out, ⟨HF.out.1, by rw [HT1.out]; exact HSN.out, Nat.le_trans HDZ.out.room HF.out.2.size⟩, HBZ.out.trans (HF.out.2.to_below (fun k hk => by
                      rcases hk with rfl | ⟨p, hp, e⟩
                      · exact Nat.le_refl _
                      · have := ((HDZ.out.at_.own p hp).lt k e).1
                        omega) HBZ.out.size)⟩, rfl⟩
                    case measure => simp [cntI]; omega
                · go_simp
                  refine hK.out _ _ hHeld (fun hHeld => ?_)
                  clear hK K
                  refine stepZ 9 rfl (by kernel_rfl) (by rfl) (fun K hK => ?_)
                  go_simp
                  (refine hK.out _ _ ?_ (fun hHeld => ?_))
                  · exact SK.out _ (only_of_below ((Below.refl _ _).alloc (Nat.le_refl _) _) _)
                  clear hK K
                  have HC2 := Lib.hid (Blk.new w0 3 #[iv a])
                  have HGA := Lib.hid (only_of_below ((Below.refl w0.heap.size w0).alloc (Nat.le_refl _) (.cells #[iv a] 3)) (vs o).ownBlock)
                  have HGB := Lib.hid (only_of_below ((Below.refl w0.heap.size w0).alloc (Nat.le_refl _) (.cells #[iv a] 3)) none)
                  generalize hwn : w0.alloc (.cells #[iv a] 3) = wa at *
                  clear hwn
                  refine stepZ 10 rfl (by kernel_rfl) (by rfl) (fun K hK => ?_)
                  (refine wp_append_any _ (.tmp 69) (.tmp 71) _ rfl (w.heap.size + 1) 3 i0 _ 1 8 Try.underlying47 hi0 hz0' hz1 hz2 rfl (by omega) _ (R o).length _ rfl ((HDZ.out.at_.own o (by omega)).kept HGB.out (by cases (vs o).ownBlock with | none => exact .inl rfl | some g => exact .inr (fun e => by cases e))) _ (some ⟨w0.heap.size, 0, none⟩) 1 _ [iv a] rfl (Reads.of_blk1 HC2.out) (by simp; rfl) (by have := HDZ.out.set.len ho10; unfold maxLen; omega) (by have := HDZ.out.set.len ho10; omega) (Nat.le_trans HDZ.out.room HGA.out.size) ?_; intro v2 w3 hown2 hg2 hat2)
                  (refine hK.out _ _ ?_ (fun hHeld => ?_))
                  · exact SK.out _ (grownBy_tr3 (World.grownBy.refl w0 _) HGA.out hg2)
                  clear hK K
                  have HG2 := Lib.hid (grownBy_tr3 (World.grownBy.refl w0 _) HGA.out hg2)
                  have HOW := Lib.hid hown2
                  have HFR := Lib.hid (show v2.ownBlock = (vs o).ownBlock ∨ ∃ g, v2.ownBlock = some g ∧ w0.heap.size ≤ g from by
                    rcases hat2 with h | h
                    · exact .inl h
                    · exact .inr ⟨_, h, HGA.out.size⟩)
                  clear hown2 hg2 hat2
                  ((refine takeYZ 13 (by kernel_rfl) (v := ?_) rfl (by kernel_rfl) (by kernel_rfl) (by kernel_rfl) (fun _ _ _ h => h) (by rfl) (by assumption) ?_ ?_; rotate_left; · (intro w hSw; (try dsimp only at hSw); go_simp; (first | done | with_reducible rfl))))
                  (try simp only [Act.put, List.setIfInBounds_toArray, List.set_cons_zero, List.set_cons_succ])
                  refine endZ rfl (by kernel_rfl) (by kernel_rfl) (by rfl) (fun K hK => ?_)
                  obtain ⟨hq1, hq2⟩ := hHeld
                  obtain ⟨Av, nv, cv, rfl⟩ := own_form HOW.out
                  go_simp
                  refine hK.out _ _ ?_
                  clear hK K hq1 hq2
                  have HF := Lib.hid (HDZ.out.at_.put ho10 HG2.out (v := .slice Av nv cv) (xs := R o ++ [(a : Int)]) (by
                    rw [List.length_append, List.map_append]
                    exact HOW.out) HFR.out)
                  generalize World.setCell _ _ _ = w4 at *
                  have HMX := HG.out.done HC.out HNO.out
                  have HSN := Lib.hid (show BSet (fun g p => Bud.Mx (seg x n) g p ∧ g < a + 2 ^ o) (upd R o (R o ++ [(a : Int)])) from (HDZ.out.set.add ho10 (show a < 2097152 by omega) (fun g hg => hg.2)).congr (fun g p => by
                    have hpo := Bud.pow_pos o
                    constructor
                    · rintro ⟨hm, hlt2⟩
                      by_cases e : g < a
                      · exact .inl ⟨hm, e⟩
                      · have := Bud.pow_pos p
                        exact .inr (hm.unique HMX.1 (Nat.le_refl g) (by omega) (by omega) hlt2)
                    · rintro (⟨hm, h2⟩ | ⟨rfl, rfl⟩)
                      · exact ⟨hm, by omega⟩
                      · exact ⟨HMX.1, by omega⟩))
                  have HCN := Lib.hid HMX.2
                  clear HMX
                  obtain ⟨t1, ht1, ht2', ht3'⟩ : ∃ t1 : Nat, (2 : Int) ^ o = (t1 : Int) ∧ t1 = 2 ^ o ∧ t1 ≤ 512 := ⟨2 ^ o, by simp, rfl, by have := Bud.pow_le (show o ≤ 9 by omega); omega⟩
                  have HT1 := Lib.hid ht2'
                  have htp : 0 < t1 := by rw [ht2']; exact Nat.two_pow_pos _
                  clear ht2'
                  go_wp2
                  simp only [Exit.jump]
                  go_roundw
                  case rel => exact ⟨_, _, _, _, _, _, _, _, _, _, _, _, _, _, _, _, _, _, _, _, _, _, _, _, _, _, _, _, _, _, _, _, _, _, _, _, _, _, _, _, _, _, _, _, _, _, _, _, _, ⟨a + t1, _, _, by simp, by omega, by rw [HT1.out]; exact HCN.out, ⟨HF.out.1, by rw [HT1.out]; exact HSN.out, Nat.le_trans HDZ.out.room HF.out.2.size⟩, HBZ.out.trans (HF.out.2.to_below (fun k hk => by
                    rcases hk with rfl | ⟨p, hp, e⟩
                    · exact Nat.le_refl _
                    · have := ((HDZ.out.at_.own p hp).lt k e).1
                      omega) HBZ.out.size)⟩, rfl⟩
                  case measure => simp [cntI]; omega
          · have g6 : decide ((r : Int) = 0) = false := by simp; omega
            have HNO := Lib.hid (show o < 9 → ¬ (a % 2 ^ (o + 1) = 0 ∧ Bud.All (seg x n) a (o + 1)) from fun _ hc => by
              rw [← HT.out, ← HR.out] at hc
              exact hm hc.1)
            have g9 : ((r : Int) == 0) = false := by simp; omega
            clear hm g6
            go_wp2_with fail
            go_quiet (fail)
            have HDN := Lib.hid (HD.out.drewN nq)
            have HBN := Lib.hid (below_drewN HBL.out nq)
            go_wp2_with fail
            generalize w1.drewN nq = w2 at *
            clear ht hr hy d1 HD HBL
            have c0 := HDN.out.at_.cr ho10
            have hoi : (o : Int) < 10 := by omega
            have SK := Lib.hid (show ∀ w', w2.drew.grownBy w' (vs o).ownBlock → w'.cell? ⟨w.heap.size, 2 + o, none⟩ = some (vs o) ∧ w'.frozen? ⟨w.heap.size, 2 + o, none⟩ = false from fun w' hg => by
              have hb : Blk w' w.heap.size 54 (bcells x en vs n) := HDN.out.at_.blk.drew.grown hg (fun e => by
                have := ((HDN.out.at_.own o (by omega)).lt _ e.symm).1
                omega)
              exact ⟨by rw [hb.cell, bcells_get (by omega)], hb.frozen _⟩)
            refine beginZ (z := 14) (S := (fun w' => w'.cell? ⟨w.heap.size, 2 + o, none⟩ = some (vs o) ∧ w'.frozen? ⟨w.heap.size, 2 + o, none⟩ = false)) (by kernel_rfl) ?_ (fun hHeld => ?_)
            · exact SK.out _ (World.grownBy.refl _ _)
            have HDZ := Lib.hid (show Bdy w2.drew w.heap.size (w.heap.size + 1) x en n vs R (fun g p => Bud.Mx (seg x n) g p ∧ g < a) from HDN.out.drewN 1)
            have HBZ := Lib.hid (show Below w.heap.size w w2.drew from HBN.out.drew)
            generalize w2.drew = w0 at *
            ((refine takeYZ 0 (by kernel_rfl) (v := ?_) rfl (by kernel_rfl) (by kernel_rfl) (by kernel_rfl) (fun _ _ _ h => h) (by rfl) (by assumption) ?_ ?_; rotate_left; · (intro w hSw; (try dsimp only at hSw); go_simp; (first | done | with_reducible rfl))))
            (try simp only [Act.put, List.setIfInBounds_toArray, List.set_cons_zero, List.set_cons_succ])
            ((refine takeYZ 1 (by kernel_rfl) (v := ?_) rfl (by kernel_rfl) (by kernel_rfl) (by kernel_rfl) (fun _ _ _ h => h) (by rfl) (by assumption) ?_ ?_; rotate_left; · (intro w hSw; (try dsimp only at hSw); go_simp; (first | done | with_reducible rfl))))
            (try simp only [Act.put, List.setIfInBounds_toArray, List.set_cons_zero, List.set_cons_succ])
            ((refine takeYZ 2 (by kernel_rfl) (v := ?_) rfl (by kernel_rfl) (by kernel_rfl) (by kernel_rfl) (fun _ _ _ h => h) (by rfl) (by assumption) ?_ ?_; rotate_left; · (intro w hSw; (try dsimp only at hSw); go_simp; (first | done | with_reducible rfl))))
            (try simp only [Act.put, List.setIfInBounds_toArray, List.set_cons_zero, List.set_cons_succ])
            ((refine takeYZ 3 (by kernel_rfl) (v := ?_) rfl (by kernel_rfl) (by kernel_rfl) (by kernel_rfl) (fun _ _ _ h => h) (by rfl) (by assumption) ?_ ?_; rotate_left; · (intro w hSw; (try dsimp only at hSw); go_simp; (first | done | with_reducible rfl))))
            (try simp only [Act.put, List.setIfInBounds_toArray, List.set_cons_zero, List.set_cons_succ])
            ((refine takeYZ 4 (by kernel_rfl) (v := ?_) rfl (by kernel_rfl) (by kernel_rfl) (by kernel_rfl) (fun _ _ _ h => h) (by rfl) (by assumption) ?_ ?_; rotate_left; · (intro w hSw; (try dsimp only at hSw); go_simp; (first | done | with_reducible rfl))))
            (try simp only [Act.put, List.setIfInBounds_toArray, List.set_cons_zero, List.set_cons_succ])
            ((refine takeYZ 5 (by kernel_rfl) (v := ?_) rfl (by kernel_rfl) (by kernel_rfl) (by kernel_rfl) (fun _ _ _ h => h) (by rfl) (by assumption) ?_ ?_; rotate_left; · (intro w hSw; (try dsimp only at hSw); go_simp; (first | done | with_reducible rfl))))
            (try simp only [Act.put, List.setIfInBounds_toArray, List.set_cons_zero, List.set_cons_succ])
            ((refine takeYZ 6 (by kernel_rfl) (v := ?_) rfl (by kernel_rfl) (by kernel_rfl) (by kernel_rfl) (fun _ _ _ h => h) (by rfl) (by assumption) ?_ ?_; rotate_left; · (intro w hSw; (try dsimp only at hSw); go_simp; (first | done | with_reducible rfl))))
            (try simp only [Act.put, List.setIfInBounds_toArray, List.set_cons_zero, List.set_cons_succ])
            ((refine takeYZ 7 (by kernel_rfl) (v := ?_) rfl (by kernel_rfl) (by kernel_rfl) (by kernel_rfl) (fun _ _ _ h => h) (by rfl) (by assumption) ?_ ?_; rotate_left; · (intro w hSw; (try dsimp only at hSw); go_simp; (first | done | with_reducible rfl))))
            (try simp only [Act.put, List.setIfInBounds_toArray, List.set_cons_zero, List.set_cons_succ])
            ((refine takeYZ 8 (by kernel_rfl) (v := ?_) rfl (by kernel_rfl) (by kernel_rfl) (by kernel_rfl) (fun _ _ _ h => h) (by rfl) (by assumption) ?_ ?_; rotate_left; · (intro w hSw; (try dsimp only at hSw); go_simp; (first | done | with_reducible rfl))))
            (try simp only [Act.put, List.setIfInBounds_toArray, List.set_cons_zero, List.set_cons_succ])
            refine readyZ (rs := [9, 11]) (by kernel_rfl) (by simp) ?_
            refine consZ 9 rfl (by rfl) (fun K hK => ?_) (consZ 11 rfl (by rfl) (fun K hK => ?_) (nilZ))
            · go_simp
              (refine hK.out _ _ ?_ (fun hHeld => ?_))
              · exact SK.out _ (only_of_below ((Below.refl _ _).alloc (Nat.le_refl _) _) _)
              clear hK K
              have HC2 := Lib.hid (Blk.new w0 3 #[iv a])
              have HGA := Lib.hid (only_of_below ((Below.refl w0.heap.size w0).alloc (Nat.le_refl _) (.cells #[iv a] 3)) (vs o).ownBlock)
              have HGB := Lib.hid (only_of_below ((Below.refl w0.heap.size w0).alloc (Nat.le_refl _) (.cells #[iv a] 3)) none)
              generalize hwn : w0.alloc (.cells #[iv a] 3) = wa at *
              clear hwn
              refine readyZ (rs := [10, 11]) (by kernel_rfl) (by simp) ?_
              refine consZ 10 rfl (by rfl) (fun K hK => ?_) (consZ 11 rfl (by rfl) (fun K hK => ?_) (nilZ))
              · (refine wp_append_any _ (.tmp 69) (.tmp 71) _ rfl (w.heap.size + 1) 3 i0 _ 1 8 Try.underlying47 hi0 hz0' hz1 hz2 rfl (by omega) _ (R o).length _ rfl ((HDZ.out.at_.own o (by omega)).kept HGB.out (by cases (vs o).ownBlock with | none => exact .inl rfl | some g => exact .inr (fun e => by cases e))) _ (some ⟨w0.heap.size, 0, none⟩) 1 _ [iv a] rfl (Reads.of_blk1 HC2.out) (by simp; rfl) (by have := HDZ.out.set.len ho10; unfold maxLen; omega) (by have := HDZ.out.set.len ho10; omega) (Nat.le_trans HDZ.out.room HGA.out.size) ?_; intro v2 w3 hown2 hg2 hat2)
                (refine hK.out _ _ ?_ (fun hHeld => ?_))
                · exact SK.out _ (grownBy_tr3 (World.grownBy.refl w0 _) HGA.out hg2)
                clear hK K
                have HG2 := Lib.hid (grownBy_tr3 (World.grownBy.refl w0 _) HGA.out hg2)
                have HOW := Lib.hid hown2
                have HFR := Lib.hid (show v2.ownBlock = (vs o).ownBlock ∨ ∃ g, v2.ownBlock = some g ∧ w0.heap.size ≤ g from by
                  rcases hat2 with h | h
                  · exact .inl h
                  · exact .inr ⟨_, h, HGA.out.size⟩)
                clear hown2 hg2 hat2
                refine stepZ 11 rfl (by kernel_rfl) (by rfl) (fun K hK => ?_)
                go_simp
                refine hK.out _ _ hHeld (fun hHeld => ?_)
                clear hK K
                refine stepZ 12 rfl (by kernel_rfl) (by rfl) (fun K hK => ?_)
                go_simp
                refine hK.out _ _ hHeld (fun hHeld => ?_)
                clear hK K
                ((refine takeYZ 13 (by kernel_rfl) (v := ?_) rfl (by kernel_rfl) (by kernel_rfl) (by kernel_rfl) (fun _ _ _ h => h) (by rfl) (by assumption) ?_ ?_; rotate_left; · (intro w hSw; (try dsimp only at hSw); go_simp; (first | done | with_reducible rfl))))
                (try simp only [Act.put, List.setIfInBounds_toArray, List.set_cons_zero, List.set_cons_succ])
                refine endZ rfl (by kernel_rfl) (by kernel_rfl) (by rfl) (fun K hK => ?_)
                obtain ⟨hq1, hq2⟩ := hHeld
                obtain ⟨Av, nv, cv, rfl⟩ := own_form HOW.out
                go_simp
                refine hK.out _ _ ?_
                clear hK K hq1 hq2
                have HF := Lib.hid (HDZ.out.at_.put ho10 HG2.out (v := .slice Av nv cv) (xs := R o ++ [(a : Int)]) (by
                  rw [List.length_append, List.map_append]
                  exact HOW.out) HFR.out)
                generalize World.setCell _ _ _ = w4 at *
                have HMX := HG.out.done HC.out HNO.out
                have HSN := Lib.hid (show BSet (fun g p => Bud.Mx (seg x n) g p ∧ g < a + 2 ^ o) (upd R o (R o ++ [(a : Int)])) from (HDZ.out.set.add ho10 (show a < 2097152 by omega) (fun g hg => hg.2)).congr (fun g p => by
                  have hpo := Bud.pow_pos o
                  constructor
                  · rintro ⟨hm, hlt2⟩
                    by_cases e : g < a
                    · exact .inl ⟨hm, e⟩
                    · have := Bud.pow_pos p
                      exact .inr (hm.unique HMX.1 (Nat.le_refl g) (by omega) (by omega) hlt2)
                  · rintro (⟨hm, h2⟩ | ⟨rfl, rfl⟩)
                    · exact ⟨hm, by omega⟩
                    · exact ⟨HMX.1, by omega⟩))
                have HCN := Lib.hid HMX.2
                clear HMX
                obtain ⟨t1, ht1, ht2', ht3'⟩ : ∃ t1 : Nat, (2 : Int) ^ o = (t1 : Int) ∧ t1 = 2 ^ o ∧ t1 ≤ 512 := ⟨2 ^ o, by simp, rfl, by have := Bud.pow_le (show o ≤ 9 by omega); omega⟩
                have HT1 := Lib.hid ht2'
                have htp : 0 < t1 := by rw [ht2']; exact Nat.two_pow_pos _
                clear ht2'
                go_wp2
                simp only [Exit.jump]
                go_roundw
                case rel => exact ⟨_, _, _, _, _, _, _, _, _, _, _, _, _, _, _, _, _, _, _, _, _, _, _, _, _, _, _, _, _, _, _, _, _, _, _, _, _, _, _, _, _, _, _, _, _, _, _, _, _, ⟨a + t1, _, _, by simp, by omega, by rw [HT1.out]; exact HCN.out, ⟨HF.out.1, by rw [HT1.out]; exact HSN.out, Nat.le_trans HDZ.out.room HF.out.2.size⟩, HBZ.out.trans (HF.out.2.to_below (fun k hk => by
                  rcases hk with rfl | ⟨p, hp, e⟩
                  · exact Nat.le_refl _
                  · have := ((HDZ.out.at_.own p hp).lt k e).1
                    omega) HBZ.out.size)⟩, rfl⟩
                case measure => simp [cntI]; omega
              · go_simp
                refine hK.out _ _ hHeld (fun hHeld => ?_)
                clear hK K
                refine readyZ (rs := [10, 12]) (by kernel_rfl) (by simp) ?_
                refine consZ 10 rfl (by rfl) (fun K hK => ?_) (consZ 12 rfl (by rfl) (fun K hK => ?_) (nilZ))
                · (refine wp_append_any _ (.tmp 69) (.tmp 71) _ rfl (w.heap.size + 1) 3 i0 _ 1 8 Try.underlying47 hi0 hz0' hz1 hz2 rfl (by omega) _ (R o).length _ rfl ((HDZ.out.at_.own o (by omega)).kept HGB.out (by cases (vs o).ownBlock with | none => exact .inl rfl | some g => exact .inr (fun e => by cases e))) _ (some ⟨w0.heap.size, 0, none⟩) 1 _ [iv a] rfl (Reads.of_blk1 HC2.out) (by simp; rfl) (by have := HDZ.out.set.len ho10; unfold maxLen; omega) (by have := HDZ.out.set.len ho10; omega) (Nat.le_trans HDZ.out.room HGA.out.size) ?_; intro v2 w3 hown2 hg2 hat2)
                  (refine hK.out _ _ ?_ (fun hHeld => ?_))
                  · exact SK.out _ (grownBy_tr3 (World.grownBy.refl w0 _) HGA.out hg2)
                  clear hK K
                  have HG2 := Lib.hid (grownBy_tr3 (World.grownBy.refl w0 _) HGA.out hg2)
                  have HOW := Lib.hid hown2
                  have HFR := Lib.hid (show v2.ownBlock = (vs o).ownBlock ∨ ∃ g, v2.ownBlock = some g ∧ w0.heap.size ≤ g from by
                    rcases hat2 with h | h
                    · exact .inl h
                    · exact .inr ⟨_, h, HGA.out.size⟩)
                  clear hown2 hg2 hat2
                  refine stepZ 12 rfl (by kernel_rfl) (by rfl) (fun K hK => ?_)
                  go_simp
                  refine hK.out _ _ hHeld (fun hHeld => ?_)
                  clear hK K
                  ((refine takeYZ 13 (by kernel_rfl) (v := ?_) rfl (by kernel_rfl) (by kernel_rfl) (by kernel_rfl) (fun _ _ _ h => h) (by rfl) (by assumption) ?_ ?_; rotate_left; · (intro w hSw; (try dsimp only at hSw); go_simp; (first | done | with_reducible rfl))))
                  (try simp only [Act.put, List.setIfInBounds_toArray, List.set_cons_zero, List.set_cons_succ])
                  refine endZ rfl (by kernel_rfl) (by kernel_rfl) (by rfl) (fun K hK => ?_)
                  obtain ⟨hq1, hq2⟩ := hHeld
                  obtain ⟨Av, nv, cv, rfl⟩ := own_form HOW.out
                  go_simp
                  refine hK.out _ _ ?_
                  clear hK K hq1 hq2
                  have HF := Lib.hid (HDZ.out.at_.put ho10 HG2.out (v := .slice Av nv cv) (xs := R o ++ [(a : Int)]) (by
                    rw [List.length_append, List.map_append]
                    exact HOW.out) HFR.out)
                  generalize World.setCell _ _ _ = w4 at *
                  have HMX := HG.out.done HC.out HNO.out
                  have HSN := Lib.hid (show BSet (fun g p => Bud.Mx (seg x n) g p ∧ g < a + 2 ^ o) (upd R o (R o ++ [(a : Int)])) from (HDZ.out.set.add ho10 (show a < 2097152 by omega) (fun g hg => hg.2)).congr (fun g p => by
                    have hpo := Bud.pow_pos o
                    constructor
                    · rintro ⟨hm, hlt2⟩
                      by_cases e : g < a
                      · exact .inl ⟨hm, e⟩
                      · have := Bud.pow_pos p
                        exact .inr (hm.unique HMX.1 (Nat.le_refl g) (by omega) (by omega) hlt2)
                    · rintro (⟨hm, h2⟩ | ⟨rfl, rfl⟩)
                      · exact ⟨hm, by omega⟩
                      · exact ⟨HMX.1, by omega⟩))
                  have HCN := Lib.hid HMX.2
                  clear HMX
                  obtain ⟨t1, ht1, ht2', ht3'⟩ : ∃ t1 : Nat, (2 : Int) ^ o = (t1 : Int) ∧ t1 = 2 ^ o ∧ t1 ≤ 512 := ⟨2 ^ o, by simp, rfl, by have := Bud.pow_le (show o ≤ 9 by omega); omega⟩
                  have HT1 := Lib.hid ht2'
                  have htp : 0 < t1 := by rw [ht2']; exact Nat.two_pow_pos _
                  clear ht2'
                  go_wp2
                  simp only [Exit.jump]
                  go_roundw
                  case rel => exact ⟨_, _, _, _, _, _, _, _, _, _, _, _, _, _, _, _, _, _, _, _, _, _, _, _, _, _, _, _, _, _, _, _, _, _, _, _, _, _, _, _, _, _, _, _, _, _, _, _, _, ⟨a + t1, _, _, by simp, by omega, by rw [HT1.out]; exact HCN.out, ⟨HF.out.1, by rw [HT1.out]; exact HSN.out, Nat.le_trans HDZ.out.room HF.out.2.size⟩, HBZ.out.trans (HF.out.2.to_below (fun k hk => by
                    rcases hk with rfl | ⟨p, hp, e⟩
                    · exact Nat.le_refl _
                    · have := ((HDZ.out.at_.own p hp).lt k e).1
                      omega) HBZ.out.size)⟩, rfl⟩
                  case measure => simp [cntI]; omega
                · go_simp
                  refine hK.out _ _ hHeld (fun hHeld => ?_)
                  clear hK K
                  refine stepZ 10 rfl (by kernel_rfl) (by rfl) (fun K hK => ?_)
                  (refine wp_append_any _ (.tmp 69) (.tmp 71) _ rfl (w.heap.size + 1) 3 i0 _ 1 8 Try.underlying47 hi0 hz0' hz1 hz2 rfl (by omega) _ (R o).length _ rfl ((HDZ.out.at_.own o (by omega)).kept HGB.out (by cases (vs o).ownBlock with | none => exact .inl rfl | some g => exact .inr (fun e => by cases e))) _ (some ⟨w0.heap.size, 0, none⟩) 1 _ [iv a] rfl (Reads.of_blk1 HC2.out) (by simp; rfl) (by have := HDZ.out.set.len ho10; unfold maxLen; omega) (by have := HDZ.out.set.len ho10; omega) (Nat.le_trans HDZ.out.room HGA.out.size) ?_; intro v2 w3 hown2 hg2 hat2)
                  (refine hK.out _ _ ?_ (fun hHeld => ?_))
                  · exact SK.out _ (grownBy_tr3 (World.grownBy.refl w0 _) HGA.out hg2)
                  clear hK K
                  have HG2 := Lib.hid (grownBy_tr3 (World.grownBy.refl w0 _) HGA.out hg2)
                  have HOW := Lib.hid hown2
                  have HFR := Lib.hid (show v2.ownBlock = (vs o).ownBlock ∨ ∃ g, v2.ownBlock = some g ∧ w0.heap.size ≤ g from by
                    rcases hat2 with h | h
                    · exact .inl h
                    · exact .inr ⟨_, h, HGA.out.size⟩)
                  clear hown2 hg2 hat2
                  ((refine takeYZ 13 (by kernel_rfl) (v := ?_) rfl (by kernel_rfl) (by kernel_rfl) (by kernel_rfl) (fun _ _ _ h => h) (by rfl) (by assumption) ?_ ?_; rotate_left; · (intro w hSw; (try dsimp only at hSw); go_simp; (first | done | with_reducible rfl))))
                  (try simp only [Act.put, List.setIfInBounds_toArray, List.set_cons_zero, List.set_cons_succ])
                  refine endZ rfl (by kernel_rfl) (by kernel_rfl) (by rfl) (fun K hK => ?_)
                  obtain ⟨hq1, hq2⟩ := hHeld
                  obtain ⟨Av, nv, cv, rfl⟩ := own_form HOW.out
                  go_simp
                  refine hK.out _ _ ?_
                  clear hK K hq1 hq2
                  have HF := Lib.hid (HDZ.out.at_.put ho10 HG2.out (v := .slice Av nv cv) (xs := R o ++ [(a : Int)]) (by
                    rw [List.length_append, List.map_append]
                    exact HOW.out) HFR.out)
                  generalize World.setCell _ _ _ = w4 at *
                  have HMX := HG.out.done HC.out HNO.out
                  have HSN := Lib.hid (show BSet (fun g p => Bud.Mx (seg x n) g p ∧ g < a + 2 ^ o) (upd R o (R o ++ [(a : Int)])) from (HDZ.out.set.add ho10 (show a < 2097152 by omega) (fun g hg => hg.2)).congr (fun g p => by
                    have hpo := Bud.pow_pos o
                    constructor
                    · rintro ⟨hm, hlt2⟩
                      by_cases e : g < a
                      · exact .inl ⟨hm, e⟩
                      · have := Bud.pow_pos p
                        exact .inr (hm.unique HMX.1 (Nat.le_refl g) (by omega) (by omega) hlt2)
                    · rintro (⟨hm, h2⟩ | ⟨rfl, rfl⟩)
                      · exact ⟨hm, by omega⟩
                      · exact ⟨HMX.1, by omega⟩))
                  have HCN := Lib.hid HMX.2
                  clear HMX
                  obtain ⟨t1, ht1, ht2', ht3'⟩ : ∃ t1 : Nat, (2 : Int) ^ o = (t1 : Int) ∧ t1 = 2 ^ o ∧ t1 ≤ 512 := ⟨2 ^ o, by simp, rfl, by have := Bud.pow_le (show o ≤ 9 by omega); omega⟩
                  have HT1 := Lib.hid ht2'
                  have htp : 0 < t1 := by rw [ht2']; exact Nat.two_pow_pos _
                  clear ht2'
                  go_wp2
                  simp only [Exit.jump]
                  go_roundw
                  case rel => exact ⟨_, _, _, _, _, _, _, _, _, _, _, _, _, _, _, _, _, _, _, _, _, _, _, _, _, _, _, _, _, _, _, _, _, _, _, _, _, _, _, _, _, _, _, _, _, _, _, _, _, ⟨a + t1, _, _, by simp, by omega, by rw [HT1.out]; exact HCN.out, ⟨HF.out.1, by rw [HT1.out]; exact HSN.out, Nat.le_trans HDZ.out.room HF.out.2.size⟩, HBZ.out.trans (HF.out.2.to_below (fun k hk => by
                    rcases hk with rfl | ⟨p, hp, e⟩
                    · exact Nat.le_refl _
                    · have := ((HDZ.out.at_.own p hp).lt k e).1
                      omega) HBZ.out.size)⟩, rfl⟩
                  case measure => simp [cntI]; omega
            · go_simp
              refine hK.out _ _ hHeld (fun hHeld => ?_)
              clear hK K
              refine readyZ (rs := [9, 12]) (by kernel_rfl) (by simp) ?_
              refine consZ 9 rfl (by rfl) (fun K hK => ?_) (consZ 12 rfl (by rfl) (fun K hK => ?_) (nilZ))
              · go_simp
                (refine hK.out _ _ ?_ (fun hHeld => ?_))
                · exact SK.out _ (only_of_below ((Below.refl _ _).alloc (Nat.le_refl _) _) _)
                clear hK K
                have HC2 := Lib.hid (Blk.new w0 3 #[iv a])
                have HGA := Lib.hid (only_of_below ((Below.refl w0.heap.size w0).alloc (Nat.le_refl _) (.cells #[iv a] 3)) (vs o).ownBlock)
                have HGB := Lib.hid (only_of_below ((Below.refl w0.heap.size w0).alloc (Nat.le_refl _) (.cells #[iv a] 3)) none)
                generalize hwn : w0.alloc (.cells #[iv a] 3) = wa at *
                clear hwn
                refine readyZ (rs := [10, 12]) (by kernel_rfl) (by simp) ?_
                refine consZ 10 rfl (by rfl) (fun K hK => ?_) (consZ 12 rfl (by rfl) (fun K hK => ?_) (nilZ))
                · (refine wp_append_any _ (.tmp 69) (.tmp 71) _ rfl (w.heap.size + 1) 3 i0 _ 1 8 Try.underlying47 hi0 hz0' hz1 hz2 rfl (by omega) _ (R o).length _ rfl ((HDZ.out.at_.own o (by omega)).kept HGB.out (by cases (vs o).ownBlock with | none => exact .inl rfl | some g => exact .inr (fun e => by cases e))) _ (some ⟨w0.heap.size, 0, none⟩) 1 _ [iv a] rfl (Reads.of_blk1 HC2.out) (by simp; rfl) (by have := HDZ.out.set.len ho10; unfold maxLen; omega) (by have := HDZ.out.set.len ho10; omega) (Nat.le_trans HDZ.out.room HGA.out.size) ?_; intro v2 w3 hown2 hg2 hat2)
                  (refine hK.out _ _ ?_ (fun hHeld => ?_))
                  · exact SK.out _ (grownBy_tr3 (World.grownBy.refl w0 _) HGA.out hg2)
                  clear hK K
                  have HG2 := Lib.hid (grownBy_tr3 (World.grownBy.refl w0 _) HGA.out hg2)
                  have HOW := Lib.hid hown2
                  have HFR := Lib.hid (show v2.ownBlock = (vs o).ownBlock ∨ ∃ g, v2.ownBlock = some g ∧ w0.heap.size ≤ g from by
                    rcases hat2 with h | h
                    · exact .inl h
                    · exact .inr ⟨_, h, HGA.out.size⟩)
                  clear hown2 hg2 hat2
                  refine stepZ 12 rfl (by kernel_rfl) (by rfl) (fun K hK => ?_)
                  go_simp
                  refine hK.out _ _ hHeld (fun hHeld => ?_)
                  clear hK K
                  ((refine takeYZ 13 (by kernel_rfl) (v := ?_) rfl (by kernel_rfl) (by kernel_rfl) (by kernel_rfl) (fun _ _ _ h => h) (by rfl) (by assumption) ?_ ?_; rotate_left; · (intro w hSw; (try dsimp only at hSw); go_simp; (first | done | with_reducible rfl))))
                  (try simp only [Act.put, List.setIfInBounds_toArray, List.set_cons_zero, List.set_cons_succ])
                  refine endZ rfl (by kernel_rfl) (by kernel_rfl) (by rfl) (fun K hK => ?_)
                  obtain ⟨hq1, hq2⟩ := hHeld
                  obtain ⟨Av, nv, cv, rfl⟩ := own_form HOW.out
                  go_simp
                  refine hK.out _ _ ?_
                  clear hK K hq1 hq2
                  have HF := Lib.hid (HDZ.out.at_.put ho10 HG2.out (v := .slice Av nv cv) (xs := R o ++ [(a : Int)]) (by
                    rw [List.length_append, List.map_append]
                    exact HOW.out) HFR.out)
                  generalize World.setCell _ _ _ = w4 at *
                  have HMX := HG.out.done HC.out HNO.out
                  have HSN := Lib.hid (show BSet (fun g p => Bud.Mx (seg x n) g p ∧ g < a + 2 ^ o) (upd R o (R o ++ [(a : Int)])) from (HDZ.out.set.add ho10 (show a < 2097152 by omega) (fun g hg => hg.2)).congr (fun g p => by
                    have hpo := Bud.pow_pos o
                    constructor
                    · rintro ⟨hm, hlt2⟩
                      by_cases e : g < a
                      · exact .inl ⟨hm, e⟩
                      · have := Bud.pow_pos p
                        exact .inr (hm.unique HMX.1 (Nat.le_refl g) (by omega) (by omega) hlt2)
                    · rintro (⟨hm, h2⟩ | ⟨rfl, rfl⟩)
                      · exact ⟨hm, by omega⟩
                      · exact ⟨HMX.1, by omega⟩))
                  have HCN := Lib.hid HMX.2
                  clear HMX
                  obtain ⟨t1, ht1, ht2', ht3'⟩ : ∃ t1 : Nat, (2 : Int) ^ o = (t1 : Int) ∧ t1 = 2 ^ o ∧ t1 ≤ 512 := ⟨2 ^ o, by simp, rfl, by have := Bud.pow_le (show o ≤ 9 by omega); omega⟩
                  have HT1 := Lib.hid ht2'
                  have htp : 0 < t1 := by rw [ht2']; exact Nat.two_pow_pos _
                  clear ht2'
                  go_wp2
                  simp only [Exit.jump]
                  go_roundw
                  case rel => exact ⟨_, _, _, _, _, _, _, _, _, _, _, _, _, _, _, _, _, _, _, _, _, _, _, _, _, _, _, _, _, _, _, _, _, _, _, _, _, _, _, _, _, _, _, _, _, _, _, _, _, ⟨a + t1, _, _, by simp, by omega, by rw [HT1.out]; exact HCN.out, ⟨HF.out.1, by rw [HT1.out]; exact HSN.out, Nat.le_trans HDZ.out.room HF.out.2.size⟩, HBZ.out.trans (HF.out.2.to_below (fun k hk => by
                    rcases hk with rfl | ⟨p, hp, e⟩
                    · exact Nat.le_refl _
                    · have := ((HDZ.out.at_.own p hp).lt k e).1
                      omega) HBZ.out.size)⟩, rfl⟩
                  case measure => simp [cntI]; omega
                · go_simp
                  refine hK.out _ _ hHeld (fun hHeld => ?_)
                  clear hK K
                  refine stepZ 10 rfl (by kernel_rfl) (by rfl) (fun K hK => ?_)
                  (refine wp_append_any _ (.tmp 69) (.tmp 71) _ rfl (w.heap.size + 1) 3 i0 _ 1 8 Try.underlying47 hi0 hz0' hz1 hz2 rfl (by omega) _ (R o).length _ rfl ((HDZ.out.at_.own o (by omega)).kept HGB.out (by cases (vs o).ownBlock with | none => exact .inl rfl | some g => exact .inr (fun e => by cases e))) _ (some ⟨w0.heap.size, 0, none⟩) 1 _ [iv a] rfl (Reads.of_blk1 HC2.out) (by simp; rfl) (by have := HDZ.out.set.len ho10; unfold maxLen; omega) (by have := HDZ.out.set.len ho10; omega) (Nat.le_trans HDZ.out.room HGA.out.size) ?_; intro v2 w3 hown2 hg2 hat2)
                  (refine hK.out _ _ ?_ (fun hHeld => ?_))
                  · exact SK.out _ (grownBy_tr3 (World.grownBy.refl w0 _) HGA.out hg2)
                  clear hK K
                  have HG2 := Lib.hid (grownBy_tr3 (World.grownBy.refl w0 _) HGA.out hg2)
                  have HOW := Lib.hid hown2
                  have HFR := Lib.hid (show v2.ownBlock = (vs o).ownBlock ∨ ∃ g, v2.ownBlock = some g ∧ w0.heap.size ≤ g from by
                    rcases hat2 with h | h
                    · exact .inl h
                    · exact .inr ⟨_, h, HGA.out.size⟩)
                  clear hown2 hg2 hat2
                  ((refine takeYZ 13 (by kernel_rfl) (v := ?_) rfl (by kernel_rfl) (by kernel_rfl) (by kernel_rfl) (fun _ _ _ h => h) (by rfl) (by assumption) ?_ ?_; rotate_left; · (intro w hSw; (try dsimp only at hSw); go_simp; (first | done | with_reducible rfl))))
                  (try simp only [Act.put, List.setIfInBounds_toArray, List.set_cons_zero, List.set_cons_succ])
                  refine endZ rfl (by kernel_rfl) (by kernel_rfl) (by rfl) (fun K hK => ?_)
                  obtain ⟨hq1, hq2⟩ := hHeld
                  obtain ⟨Av, nv, cv, rfl⟩ := own_form HOW.out
                  go_simp
                  refine hK.out _ _ ?_
                  clear hK K hq1 hq2
                  have HF := Lib.hid (HDZ.out.at_.put ho10 HG2.out (v := .slice Av nv cv) (xs := R o ++ [(a : Int)]) (by
                    rw [List.length_append, List.map_append]
                    exact HOW.out) HFR.out)
                  generalize World.setCell _ _ _ = w4 at *
                  have HMX := HG.out.done HC.out HNO.out
                  have HSN := Lib.hid (show BSet (fun g p => Bud.Mx (seg x n) g p ∧ g < a + 2 ^ o) (upd R o (R o ++ [(a : Int)])) from (HDZ.out.set.add ho10 (show a < 2097152 by omega) (fun g hg => hg.2)).congr (fun g p => by
                    have hpo := Bud.pow_pos o
                    constructor
                    · rintro ⟨hm, hlt2⟩
                      by_cases e : g < a
                      · exact .inl ⟨hm, e⟩
                      · have := Bud.pow_pos p
                        exact .inr (hm.unique HMX.1 (Nat.le_refl g) (by omega) (by omega) hlt2)
                    · rintro (⟨hm, h2⟩ | ⟨rfl, rfl⟩)
                      · exact ⟨hm, by omega⟩
                      · exact ⟨HMX.1, by omega⟩))
                  have HCN := Lib.hid HMX.2
                  clear HMX
                  obtain ⟨t1, ht1, ht2', ht3'⟩ : ∃ t1 : Nat, (2 : Int) ^ o = (t1 : Int) ∧ t1 = 2 ^ o ∧ t1 ≤ 512 := ⟨2 ^ o, by simp, rfl, by have := Bud.pow_le (show o ≤ 9 by omega); omega⟩
                  have HT1 := Lib.hid ht2'
                  have htp : 0 < t1 := by rw [ht2']; exact Nat.two_pow_pos _
                  clear ht2'
                  go_wp2
                  simp only [Exit.jump]
                  go_roundw
                  case rel => exact ⟨_, _, _, _, _, _, _, _, _, _, _, _, _, _, _, _, _, _, _, _, _, _, _, _, _, _, _, _, _, _, _, _, _, _, _, _, _, _, _, _, _, _, _, _, _, _, _, _, _, ⟨a + t1, _, _, by simp, by omega, by rw [HT1.out]; exact HCN.out, ⟨HF.out.1, by rw [HT1.out]; exact HSN.out, Nat.le_trans HDZ.out.room HF.out.2.size⟩, HBZ.out.trans (HF.out.2.to_below (fun k hk => by
                    rcases hk with rfl | ⟨p, hp, e⟩
                    · exact Nat.le_refl _
                    · have := ((HDZ.out.at_.own p hp).lt k e).1
                      omega) HBZ.out.size)⟩, rfl⟩
                  case measure => simp [cntI]; omega
              · go_simp
                refine hK.out _ _ hHeld (fun hHeld => ?_)
                clear hK K
                refine stepZ 9 rfl (by kernel_rfl) (by rfl) (fun K hK => ?_)
                go_simp
                (refine hK.out _ _ ?_ (fun hHeld => ?_))
                · exact SK.out _ (only_of_below ((Below.refl _ _).alloc (Nat.le_refl _) _) _)
                clear hK K
                have HC2 := Lib.hid (Blk.new w0 3 #[iv a])
                have HGA := Lib.hid (only_of_below ((Below.refl w0.heap.size w0).alloc (Nat.le_refl _) (.cells #[iv a] 3)) (vs o).ownBlock)
                have HGB := Lib.hid (only_of_below ((Below.refl w0.heap.size w0).alloc (Nat.le_refl _) (.cells #[iv a] 3)) none)
                generalize hwn : w0.alloc (.cells #[iv a] 3) = wa at *
                clear hwn
                refine stepZ 10 rfl (by kernel_rfl) (by rfl) (fun K hK => ?_)
                (refine wp_append_any _ (.tmp 69) (.tmp 71) _ rfl (w.heap.size + 1) 3 i0 _ 1 8 Try.underlying47 hi0 hz0' hz1 hz2 rfl (by omega) _ (R o).length _ rfl ((HDZ.out.at_.own o (by omega)).kept HGB.out (by cases (vs o).ownBlock with | none => exact .inl rfl | some g => exact .inr (fun e => by cases e))) _ (some ⟨w0.heap.size, 0, none⟩) 1 _ [iv a] rfl (Reads.of_blk1 HC2.out) (by simp; rfl) (by have := HDZ.out.set.len ho10; unfold maxLen; omega) (by have := HDZ.out.set.len ho10; omega) (Nat.le_trans HDZ.out.room HGA.out.size) ?_; intro v2 w3 hown2 hg2 hat2)
                (refine hK.out _ _ ?_ (fun hHeld => ?_))
                · exact SK.out _ (grownBy_tr3 (World.grownBy.refl w0 _) HGA.out hg2)
                clear hK K
                have HG2 := Lib.hid (grownBy_tr3 (World.grownBy.refl w0 _) HGA.out hg2)
                have HOW := Lib.hid hown2
                have HFR := Lib.hid (show v2.ownBlock = (vs o).ownBlock ∨ ∃ g, v2.ownBlock = some g ∧ w0.heap.size ≤ g from by
                  rcases hat2 with h | h
                  · exact .inl h
                  · exact .inr ⟨_, h, HGA.out.size⟩)
                clear hown2 hg2 hat2
                ((refine takeYZ 13 (by kernel_rfl) (v := ?_) rfl (by kernel_rfl) (by kernel_rfl) (by kernel_rfl) (fun _ _ _ h => h) (by rfl) (by assumption) ?_ ?_; rotate_left; · (intro w hSw; (try dsimp only at hSw); go_simp; (first | done | with_reducible rfl))))
                (try simp only [Act.put, List.setIfInBounds_toArray, List.set_cons_zero, List.set_cons_succ])
                refine endZ rfl (by kernel_rfl) (by kernel_rfl) (by rfl) (fun K hK => ?_)
                obtain ⟨hq1, hq2⟩ := hHeld
                obtain ⟨Av, nv, cv, rfl⟩ := own_form HOW.out
                go_simp
                refine hK.out _ _ ?_
                clear hK K hq1 hq2
                have HF := Lib.hid (HDZ.out.at_.put ho10 HG2.out (v := .slice Av nv cv) (xs := R o ++ [(a : Int)]) (by
                  rw [List.length_append, List.map_append]
                  exact HOW.out) HFR.out)
                generalize World.setCell _ _ _ = w4 at *
                have HMX := HG.out.done HC.out HNO.out
                have HSN := Lib.hid (show BSet (fun g p => Bud.Mx (seg x n) g p ∧ g < a + 2 ^ o) (upd R o (R o ++ [(a : Int)])) from (HDZ.out.set.add ho10 (show a < 2097152 by omega) (fun g hg => hg.2)).congr (fun g p => by
                  have hpo := Bud.pow_pos o
                  constructor
                  · rintro ⟨hm, hlt2⟩
                    by_cases e : g < a
                    · exact .inl ⟨hm, e⟩
                    · have := Bud.pow_pos p
                      exact .inr (hm.unique HMX.1 (Nat.le_refl g) (by omega) (by omega) hlt2)
                  · rintro (⟨hm, h2⟩ | ⟨rfl, rfl⟩)
                    · exact ⟨hm, by omega⟩
                    · exact ⟨HMX.1, by omega⟩))
                have HCN := Lib.hid HMX.2
                clear HMX
                obtain ⟨t1, ht1, ht2', ht3'⟩ : ∃ t1 : Nat, (2 : Int) ^ o = (t1 : Int) ∧ t1 = 2 ^ o ∧ t1 ≤ 512 := ⟨2 ^ o, by simp, rfl, by have := Bud.pow_le (show o ≤ 9 by omega); omega⟩
                have HT1 := Lib.hid ht2'
                have htp : 0 < t1 := by rw [ht2']; exact Nat.two_pow_pos _
                clear ht2'
                go_wp2
                simp only [Exit.jump]
                go_roundw
                case rel => exact ⟨_, _, _, _, _, _, _, _, _, _, _, _, _, _, _, _, _, _, _, _, _, _, _, _, _, _, _, _, _, _, _, _, _, _, _, _, _, _, _, _, _, _, _, _, _, _, _, _, _, ⟨a + t1, _, _, by simp, by omega, by rw [HT1.out]; exact HCN.out, ⟨HF.out.1, by rw [HT1.out]; exact HSN.out, Nat.le_trans HDZ.out.room HF.out.2.size⟩, HBZ.out.trans (HF.out.2.to_below (fun k hk => by
                  rcases hk with rfl | ⟨p, hp, e⟩
                  · exact Nat.le_refl _
                  · have := ((HDZ.out.at_.own p hp).lt k e).1
                    omega) HBZ.out.size)⟩, rfl⟩
                case measure => simp [cntI]; omega
        · have g5 : decide ((o : Int) + 1 < 10) = false := by simp; omega
          have HNO := Lib.hid (show o < 9 → ¬ (a % 2 ^ (o + 1) = 0 ∧ Bud.All (seg x n) a (o + 1)) from fun h => absurd h h9)
          go_wp2_with fail
          go_quiet (fail)
          have HDN := Lib.hid (HD.out.drewN nq)
          have HBN := Lib.hid (below_drewN HBL.out nq)
          go_wp2_with fail
          generalize w1.drewN nq = w2 at *
          clear ht hr hy d1 HD HBL
          have c0 := HDN.out.at_.cr ho10
          have hoi : (o : Int) < 10 := by omega
          have SK := Lib.hid (show ∀ w', w2.drew.grownBy w' (vs o).ownBlock → w'.cell? ⟨w.heap.size, 2 + o, none⟩ = some (vs o) ∧ w'.frozen? ⟨w.heap.size, 2 + o, none⟩ = false from fun w' hg => by
            have hb : Blk w' w.heap.size 54 (bcells x en vs n) := HDN.out.at_.blk.drew.grown hg (fun e => by
              have := ((HDN.out.at_.own o (by omega)).lt _ e.symm).1
              omega)
            exact ⟨by rw [hb.cell, bcells_get (by omega)], hb.frozen _⟩)
          refine beginZ (z := 14) (S := (fun w' => w'.cell? ⟨w.heap.size, 2 + o, none⟩ = some (vs o) ∧ w'.frozen? ⟨w.heap.size, 2 + o, none⟩ = false)) (by kernel_rfl) ?_ (fun hHeld => ?_)
          · exact SK.out _ (World.grownBy.refl _ _)
          have HDZ := Lib.hid (show Bdy w2.drew w.heap.size (w.heap.size + 1) x en n vs R (fun g p => Bud.Mx (seg x n) g p ∧ g < a) from HDN.out.drewN 1)
          have HBZ := Lib.hid (show Below w.heap.size w w2.drew from HBN.out.drew)
          generalize w2.drew = w0 at *
          ((refine takeYZ 0 (by kernel_rfl) (v := ?_) rfl (by kernel_rfl) (by kernel_rfl) (by kernel_rfl) (fun _ _ _ h => h) (by rfl) (by assumption) ?_ ?_; rotate_left; · (intro w hSw; (try dsimp only at hSw); go_simp; (first | done | with_reducible rfl))))
          (try simp only [Act.put, List.setIfInBounds_toArray, List.set_cons_zero, List.set_cons_succ])
          ((refine takeYZ 1 (by kernel_rfl) (v := ?_) rfl (by kernel_rfl) (by kernel_rfl) (by kernel_rfl) (fun _ _ _ h => h) (by rfl) (by assumption) ?_ ?_; rotate_left; · (intro w hSw; (try dsimp only at hSw); go_simp; (first | done | with_reducible rfl))))
          (try simp only [Act.put, List.setIfInBounds_toArray, List.set_cons_zero, List.set_cons_succ])
          ((refine takeYZ 2 (by kernel_rfl) (v := ?_) rfl (by kernel_rfl) (by kernel_rfl) (by kernel_rfl) (fun _ _ _ h => h) (by rfl) (by assumption) ?_ ?_; rotate_left; · (intro w hSw; (try dsimp only at hSw); go_simp; (first | done | with_reducible rfl))))
          (try simp only [Act.put, List.setIfInBounds_toArray, List.set_cons_zero, List.set_cons_succ])
          ((refine takeYZ 3 (by kernel_rfl) (v := ?_) rfl (by kernel_rfl) (by kernel_rfl) (by kernel_rfl) (fun _ _ _ h => h) (by rfl) (by assumption) ?_ ?_; rotate_left; · (intro w hSw; (try dsimp only at hSw); go_simp; (first | done | with_reducible rfl))))
          (try simp only [Act.put, List.setIfInBounds_toArray, List.set_cons_zero, List.set_cons_succ])
          ((refine takeYZ 4 (by kernel_rfl) (v := ?_) rfl (by kernel_rfl) (by kernel_rfl) (by kernel_rfl) (fun _ _ _ h => h) (by rfl) (by assumption) ?_ ?_; rotate_left; · (intro w hSw; (try dsimp only at hSw); go_simp; (first | done | with_reducible rfl))))
          (try simp only [Act.put, List.setIfInBounds_toArray, List.set_cons_zero, List.set_cons_succ])
          ((refine takeYZ 5 (by kernel_rfl) (v := ?_) rfl (by kernel_rfl) (by kernel_rfl) (by kernel_rfl) (fun _ _ _ h => h) (by rfl) (by assumption) ?_ ?_; rotate_left; · (intro w hSw; (try dsimp only at hSw); go_simp; (first | done | with_reducible rfl))))
          (try simp only [Act.put, List.setIfInBounds_toArray, List.set_cons_zero, List.set_cons_succ])
          ((refine takeYZ 6 (by kernel_rfl) (v := ?_) rfl (by kernel_rfl) (by kernel_rfl) (by kernel_rfl) (fun _ _ _ h => h) (by rfl) (by assumption) ?_ ?_; rotate_left; · (intro w hSw; (try dsimp only at hSw); go_simp; (first | done | with_reducible rfl))))
          (try simp only [Act.put, List.setIfInBounds_toArray, List.set_cons_zero, List.set_cons_succ])
          ((refine takeYZ 7 (by kernel_rfl) (v := ?_) rfl (by kernel_rfl) (by kernel_rfl) (by kernel_rfl) (fun _ _ _ h => h) (by rfl) (by assumption) ?_ ?_; rotate_left; · (intro w hSw; (try dsimp only at hSw); go_simp; (first | done | with_reducible rfl))))
          (try simp only [Act.put, List.setIfInBounds_toArray, List.set_cons_zero, List.set_cons_succ])
          ((refine takeYZ 8 (by kernel_rfl) (v := ?_) rfl (by kernel_rfl) (by kernel_rfl) (by kernel_rfl) (fun _ _ _ h => h) (by rfl) (by assumption) ?_ ?_; rotate_left; · (intro w hSw; (try dsimp only at hSw); go_simp; (first | done | with_reducible rfl))))
          (try simp only [Act.put, List.setIfInBounds_toArray, List.set_cons_zero, List.set_cons_succ])
          refine readyZ (rs := [9, 11]) (by kernel_rfl) (by simp) ?_
          refine consZ 9 rfl (by rfl) (fun K hK => ?_) (consZ 11 rfl (by rfl) (fun K hK => ?_) (nilZ))
          · go_simp
            (refine hK.out _ _ ?_ (fun hHeld => ?_))
            · exact SK.out _ (only_of_below ((Below.refl _ _).alloc (Nat.le_refl _) _) _)
            clear hK K
            have HC2 := Lib.hid (Blk.new w0 3 #[iv a])
            have HGA := Lib.hid (only_of_below ((Below.refl w0.heap.size w0).alloc (Nat.le_refl _) (.cells #[iv a] 3)) (vs o).ownBlock)
            have HGB := Lib.hid (only_of_below ((Below.refl w0.heap.size w0).alloc (Nat.le_refl _) (.cells #[iv a] 3)) none)
            generalize hwn : w0.alloc (.cells #[iv a] 3) = wa at *
            clear hwn
            refine readyZ (rs := [10, 11]) (by kernel_rfl) (by simp) ?_
            refine consZ 10 rfl (by rfl) (fun K hK => ?_) (consZ 11 rfl (by rfl) (fun K hK => ?_) (nilZ))
            · (refine wp_append_any _ (.tmp 69) (.tmp 71) _ rfl (w.heap.size + 1) 3 i0 _ 1 8 Try.underlying47 hi0 hz0' hz1 hz2 rfl (by omega) _ (R o).length _ rfl ((HDZ.out.at_.own o (by omega)).kept HGB.out (by cases (vs o).ownBlock with | none => exact .inl rfl | some g => exact .inr (fun e => by cases e))) _ (some ⟨w0.heap.size, 0, none⟩) 1 _ [iv a] rfl (Reads.of_blk1 HC2.out) (by simp; rfl) (by have := HDZ.out.set.len ho10; unfold maxLen; omega) (by have := HDZ.out.set.len ho10; omega) (Nat.le_trans HDZ.out.room HGA.out.size) ?_; intro v2 w3 hown2 hg2 hat2)
              (refine hK.out _ _ ?_ (fun hHeld => ?_))
              · exact SK.out _ (grownBy_tr3 (World.grownBy.refl w0 _) HGA.out hg2)
              clear hK K
              have HG2 := Lib.hid (grownBy_tr3 (World.grownBy.refl w0 _) HGA.out hg2)
              have HOW := Lib.hid hown2
              have HFR := Lib.hid (show v2.ownBlock = (vs o).ownBlock ∨ ∃ g, v2.ownBlock = some g ∧ w0.heap.size ≤ g from by
                rcases hat2 with h | h
                · exact .inl h
                · exact .inr ⟨_, h, HGA.out.size⟩)
              clear hown2 hg2 hat2
              refine stepZ 11 rfl (by kernel_rfl) (by rfl) (fun K hK => ?_)
              go_simp
              refine hK.out _ _ hHeld (fun hHeld => ?_)
              clear hK K
              refine stepZ 12 rfl (by kernel_rfl) (by rfl) (fun K hK => ?_)
              go_simp
              refine hK.out _ _ hHeld (fun hHeld => ?_)
              clear hK K
              ((refine takeYZ 13 (by kernel_rfl) (v := ?_) rfl (by kernel_rfl) (by kernel_rfl) (by kernel_rfl) (fun _ _ _ h => h) (by rfl) (by assumption) ?_ ?_; rotate_left; · (intro w hSw; (try dsimp only at hSw); go_simp; (first | done | with_reducible rfl))))
              (try simp only [Act.put, List.setIfInBounds_toArray, List.set_cons_zero, List.set_cons_succ])
              refine endZ rfl (by kernel_rfl) (by kernel_rfl) (by rfl) (fun K hK => ?_)
              obtain ⟨hq1, hq2⟩ := hHeld
              obtain ⟨Av, nv, cv, rfl⟩ := own_form HOW.out
              go_simp
              refine hK.out _ _ ?_
              clear hK K hq1 hq2
              have HF := Lib.hid (HDZ.out.at_.put ho10 HG2.out (v := .slice Av nv cv) (xs := R o ++ [(a : Int)]) (by
                rw [List.length_append, List.map_append]
                exact HOW.out) HFR.out)
              generalize World.setCell _ _ _ = w4 at *
              have HMX := HG.out.done HC.out HNO.out
              have HSN := Lib.hid (show BSet (fun g p => Bud.Mx (seg x n) g p ∧ g < a + 2 ^ o) (upd R o (R o ++ [(a : Int)])) from (HDZ.out.set.add ho10 (show a < 2097152 by omega) (fun g hg => hg.2)).congr (fun g p => by
                have hpo := Bud.pow_pos o
                constructor
                · rintro ⟨hm, hlt2⟩
                  by_cases e : g < a
                  · exact .inl ⟨hm, e⟩
                  · have := Bud.pow_pos p
                    exact .inr (hm.unique HMX.1 (Nat.le_refl g) (by omega) (by omega) hlt2)
                · rintro (⟨hm, h2⟩ | ⟨rfl, rfl⟩)
                  · exact ⟨hm, by omega⟩
                  · exact ⟨HMX.1, by omega⟩))
              have HCN := Lib.hid HMX.2
              clear HMX
              obtain ⟨t1, ht1, ht2', ht3'⟩ : ∃ t1 : Nat, (2 : Int) ^ o = (t1 : Int) ∧ t1 = 2 ^ o ∧ t1 ≤ 512 := ⟨2 ^ o, by simp, rfl, by have := Bud.pow_le (show o ≤ 9 by omega); omega⟩
              have HT1 := Lib.hid ht2'
              have htp : 0 < t1 := by rw [ht2']; exact Nat.two_pow_pos _
              clear ht2'
              go_wp2
              simp only [Exit.jump]
              go_roundw
              case rel => exact ⟨_, _, _, _, _, _, _, _, _, _, _, _, _, _, _, _, _, _, _, _, _, _, _, _, _, _, _, _, _, _, _, _, _, _, _, _, _, _, _, _, _, _, _, _, _, _, _, _, _, ⟨a + t1, _, _, by simp, by omega, by rw [HT1.out]; exact HCN.out, ⟨HF.out.1, by rw [HT1.out]; exact HSN.out, Nat.le_trans HDZ.out.room HF.out.2.size⟩, HBZ.out.trans (HF.out.2.to_below (fun k hk => by
                rcases hk with rfl | ⟨p, hp, e⟩
                · exact Nat.le_refl _
                · have := ((HDZ.out.at_.own p hp).lt k e).1
                  omega) HBZ.out.size)⟩, rfl⟩
              case measure => simp [cntI]; omega
            · go_simp
              refine hK.out _ _ hHeld (fun hHeld => ?_)
              clear hK K
              refine readyZ (rs := [10, 12]) (by kernel_rfl) (by simp) ?_
              refine consZ 10 rfl (by rfl) (fun K hK => ?_) (consZ 12 rfl (by rfl) (fun K hK => ?_) (nilZ))
              · (refine wp_append_any _ (.tmp 69) (.tmp 71) _ rfl (w.heap.size + 1) 3 i0 _ 1 8 Try.underlying47 hi0 hz0' hz1 hz2 rfl (by omega) _ (R o).length _ rfl ((HDZ.out.at_.own o (by omega)).kept HGB.out (by cases (vs o).ownBlock with | none => exact .inl rfl | some g => exact .inr (fun e => by cases e))) _ (some ⟨w0.heap.size, 0, none⟩) 1 _ [iv a] rfl (Reads.of_blk1 HC2.out) (by simp; rfl) (by have := HDZ.out.set.len ho10; unfold maxLen; omega) (by have := HDZ.out.set.len ho10; omega) (Nat.le_trans HDZ.out.room HGA.out.size) ?_; intro v2 w3 hown2 hg2 hat2)
                (refine hK.out _ _ ?_ (fun hHeld => ?_))
                · exact SK.out _ (grownBy_tr3 (World.grownBy.refl w0 _) HGA.out hg2)
                clear hK K
                have HG2 := Lib.hid (grownBy_tr3 (World.grownBy.refl w0 _) HGA.out hg2)
                have HOW := Lib.hid hown2
                have HFR := Lib.hid (show v2.ownBlock = (vs o).ownBlock ∨ ∃ g, v2.ownBlock = some g ∧ w0.heap.size ≤ g from by
                  rcases hat2 with h | h
                  · exact .inl h
                  · exact .inr ⟨_, h, HGA.out.size⟩)
                clear hown2 hg2 hat2
                refine stepZ 12 rfl (by kernel_rfl) (by rfl) (fun K hK => ?_)
                go_simp
                refine hK.out _ _ hHeld (fun hHeld => ?_)
                clear hK K
                ((refine takeYZ 13 (by kernel_rfl) (v := ?_) rfl (by kernel_rfl) (by kernel_rfl) (by kernel_rfl) (fun _ _ _ h => h) (by rfl) (by assumption) ?_ ?_; rotate_left; · (intro w hSw; (try dsimp only at hSw); go_simp; (first | done | with_reducible rfl))))
                (try simp only [Act.put, List.setIfInBounds_toArray, List.set_cons_zero, List.set_cons_succ])
                refine endZ rfl (by kernel_rfl) (by kernel_rfl) (by rfl) (fun K hK => ?_)
                obtain ⟨hq1, hq2⟩ := hHeld
                obtain ⟨Av, nv, cv, rfl⟩ := own_form HOW.out
                go_simp
                refine hK.out _ _ ?_
                clear hK K hq1 hq2
                have HF := Lib.hid (HDZ.out.at_.put ho10 HG2.out (v := .slice Av nv cv) (xs := R o ++ [(a : Int)]) (by
                  rw [List.length_append, List.map_append]
                  exact HOW.out) HFR.out)
                generalize World.setCell _ _ _ = w4 at *
                have HMX := HG.out.done HC.out HNO.out
                have HSN := Lib.hid (show BSet (fun g p => Bud.Mx (seg x n) g p ∧ g < a + 2 ^ o) (upd R o (R o ++ [(a : Int)])) from (HDZ.out.set.add ho10 (show a < 2097152 by omega) (fun g hg => hg.2)).congr (fun g p => by
                  have hpo := Bud.pow_pos o
                  constructor
                  · rintro ⟨hm, hlt2⟩
                    by_cases e : g < a
                    · exact .inl ⟨hm, e⟩
                    · have := Bud.pow_pos p
                      exact .inr (hm.unique HMX.1 (Nat.le_refl g) (by omega) (by omega) hlt2)
                  · rintro (⟨hm, h2⟩ | ⟨rfl, rfl⟩)
                    · exact ⟨hm, by omega⟩
                    · exact ⟨HMX.1, by omega⟩))
                have HCN := Lib.hid HMX.2
                clear HMX
                obtain ⟨t1, ht1, ht2', ht3'⟩ : ∃ t1 : Nat, (2 : Int) ^ o = (t1 : Int) ∧ t1 = 2 ^ o ∧ t1 ≤ 512 := ⟨2 ^ o, by simp, rfl, by have := Bud.pow_le (show o ≤ 9 by omega); omega⟩
                have HT1 := Lib.hid ht2'
                have htp : 0 < t1 := by rw [ht2']; exact Nat.two_pow_pos _
                clear ht2'
                go_wp2
                simp only [Exit.jump]
                go_roundw
                case rel => exact ⟨_, _, _, _, _, _, _, _, _, _, _, _, _, _, _, _, _, _, _, _, _, _, _, _, _, _, _, _, _, _, _, _, _, _, _, _, _, _, _, _, _, _, _, _, _, _, _, _, _, ⟨a + t1, _, _, by simp, by omega, by rw [HT1.out]; exact HCN.out, ⟨HF.out.1, by rw [HT1.out]; exact HSN.out, Nat.le_trans HDZ.out.room HF.out.2.size⟩, HBZ.out.trans (HF.out.2.to_below (fun k hk => by
                  rcases hk with rfl | ⟨p, hp, e⟩
                  · exact Nat.le_refl _
                  · have := ((HDZ.out.at_.own p hp).lt k e).1
                    omega) HBZ.out.size)⟩, rfl⟩
                case measure => simp [cntI]; omega
              · go_simp
                refine hK.out _ _ hHeld (fun hHeld => ?_)
                clear hK K
                refine stepZ 10 rfl (by kernel_rfl) (by rfl) (fun K hK => ?_)
                (refine wp_append_any _ (.tmp 69) (.tmp 71) _ rfl (w.heap.size + 1) 3 i0 _ 1 8 Try.underlying47 hi0 hz0' hz1 hz2 rfl (by omega) _ (R o).length _ rfl ((HDZ.out.at_.own o (by omega)).kept HGB.out (by cases (vs o).ownBlock with | none => exact .inl rfl | some g => exact .inr (fun e => by cases e))) _ (some ⟨w0.heap.size, 0, none⟩) 1 _ [iv a] rfl (Reads.of_blk1 HC2.out) (by simp; rfl) (by have := HDZ.out.set.len ho10; unfold maxLen; omega) (by have := HDZ.out.set.len ho10; omega) (Nat.le_trans HDZ.out.room HGA.out.size) ?_; intro v2 w3 hown2 hg2 hat2)
                (refine hK.out _ _ ?_ (fun hHeld => ?_))
                · exact SK.out _ (grownBy_tr3 (World.grownBy.refl w0 _) HGA.out hg2)
                clear hK K
                have HG2 := Lib.hid (grownBy_tr3 (World.grownBy.refl w0 _) HGA.out hg2)
                have HOW := Lib.hid hown2
                have HFR := Lib.hid (show v2.ownBlock = (vs o).ownBlock ∨ ∃ g, v2.ownBlock = some g ∧ w0.heap.size ≤ g from by
                  rcases hat2 with h | h
                  · exact .inl h
                  · exact .inr ⟨_, h, HGA.out.size⟩)
                clear hown2 hg2 hat2
                ((refine takeYZ 13 (by kernel_rfl) (v := ?_) rfl (by kernel_rfl) (by kernel_rfl) (by kernel_rfl) (fun _ _ _ h => h) (by rfl) (by assumption) ?_ ?_; rotate_left; · (intro w hSw; (try dsimp only at hSw); go_simp; (first | done | with_reducible rfl))))
                (try simp only [Act.put, List.setIfInBounds_toArray, List.set_cons_zero, List.set_cons_succ])
                refine endZ rfl (by kernel_rfl) (by kernel_rfl) (by rfl) (fun K hK => ?_)
                obtain ⟨hq1, hq2⟩ := hHeld
                obtain ⟨Av, nv, cv, rfl⟩ := own_form HOW.out
                go_simp
                refine hK.out _ _ ?_
                clear hK K hq1 hq2
                have HF := Lib.hid (HDZ.out.at_.put ho10 HG2.out (v := .slice Av nv cv) (xs := R o ++ [(a : Int)]) (by
                  rw [List.length_append, List.map_append]
                  exact HOW.out) HFR.out)
                generalize World.setCell _ _ _ = w4 at *
                have HMX := HG.out.done HC.out HNO.out
                have HSN := Lib.hid (show BSet (fun g p => Bud.Mx (seg x n) g p ∧ g < a + 2 ^ o) (upd R o (R o ++ [(a : Int)])) from (HDZ.out.set.add ho10 (show a < 2097152 by omega) (fun g hg => hg.2)).congr (fun g p => by
                  have hpo := Bud.pow_pos o
                  constructor
                  · rintro ⟨hm, hlt2⟩
                    by_cases e : g < a
                    · exact .inl ⟨hm, e⟩
                    · have := Bud.pow_pos p
                      exact .inr (hm.unique HMX.1 (Nat.le_refl g) (by omega) (by omega) hlt2)
                  · rintro (⟨hm, h2⟩ | ⟨rfl, rfl⟩)
                    · exact ⟨hm, by omega⟩
                    · exact ⟨HMX.1, by omega⟩))
                have HCN := Lib.hid HMX.2
                clear HMX
                obtain ⟨t1, ht1, ht2', ht3'⟩ : ∃ t1 : Nat, (2 : Int) ^ o = (t1 : Int) ∧ t1 = 2 ^ o ∧ t1 ≤ 512 := ⟨2 ^ o, by simp, rfl, by have := Bud.pow_le (show o ≤ 9 by omega); omega⟩
                have HT1 := Lib.hid ht2'
                have htp : 0 < t1 := by rw [ht2']; exact Nat.two_pow_pos _
                clear ht2'
                go_wp2
                simp only [Exit.jump]
                go_roundw
                case rel => exact ⟨_, _, _, _, _, _, _, _, _, _, _, _, _, _, _, _, _, _, _, _, _, _, _, _, _, _, _, _, _, _, _, _, _, _, _, _, _, _, _, _, _, _, _, _, _, _, _, _, _, ⟨a + t1, _, _, by simp, by omega, by rw [HT1.out]; exact HCN.out, ⟨HF.out.1, by rw [HT1.out]; exact HSN.out, Nat.le_trans HDZ.out.room HF.out.2.size⟩, HBZ.out.trans (HF.out.2.to_below (fun k hk => by
                  rcases hk with rfl | ⟨p, hp, e⟩
                  · exact Nat.le_refl _
                  · have := ((HDZ.out.at_.own p hp).lt k e).1
                    omega) HBZ.out.size)⟩, rfl⟩
                case measure => simp [cntI]; omega
          · go_simp
            refine hK.out _ _ hHeld (fun hHeld => ?_)
            clear hK K
            refine readyZ (rs := [9, 12]) (by kernel_rfl) (by simp) ?_
            refine consZ 9 rfl (by rfl) (fun K hK => ?_) (consZ 12 rfl (by rfl) (fun K hK => ?_) (nilZ))
            · go_simp
              (refine hK.out _ _ ?_ (fun hHeld => ?_))
              · exact SK.out _ (only_of_below ((Below.refl _ _).alloc (Nat.le_refl _) _) _)
              clear hK K
              have HC2 := Lib.hid (Blk.new w0 3 #[iv a])
              have HGA := Lib.hid (only_of_below ((Below.refl w0.heap.size w0).alloc (Nat.le_refl _) (.cells #[iv a] 3)) (vs o).ownBlock)
              have HGB := Lib.hid (only_of_below ((Below.refl w0.heap.size w0).alloc (Nat.le_refl _) (.cells #[iv a] 3)) none)
              generalize hwn : w0.alloc (.cells #[iv a] 3) = wa at *
              clear hwn
              refine readyZ (rs := [10, 12]) (by kernel_rfl) (by simp) ?_
              refine consZ 10 rfl (by rfl) (fun K hK => ?_) (consZ 12 rfl (by rfl) (fun K hK => ?_) (nilZ))
              · (refine wp_append_any _ (.tmp 69) (.tmp 71) _ rfl (w.heap.size + 1) 3 i0 _ 1 8 Try.underlying47 hi0 hz0' hz1 hz2 rfl (by omega) _ (R o).length _ rfl ((HDZ.out.at_.own o (by omega)).kept HGB.out (by cases (vs o).ownBlock with | none => exact .inl rfl | some g => exact .inr (fun e => by cases e))) _ (some ⟨w0.heap.size, 0, none⟩) 1 _ [iv a] rfl (Reads.of_blk1 HC2.out) (by simp; rfl) (by have := HDZ.out.set.len ho10; unfold maxLen; omega) (by have := HDZ.out.set.len ho10; omega) (Nat.le_trans HDZ.out.room HGA.out.size) ?_; intro v2 w3 hown2 hg2 hat2)
                (refine hK.out _ _ ?_ (fun hHeld => ?_))
                · exact SK.out _ (grownBy_tr3 (World.grownBy.refl w0 _) HGA.out hg2)
                clear hK K
                have HG2 := Lib.hid (grownBy_tr3 (World.grownBy.refl w0 _) HGA.out hg2)
                have HOW := Lib.hid hown2
                have HFR := Lib.hid (show v2.ownBlock = (vs o).ownBlock ∨ ∃ g, v2.ownBlock = some g ∧ w0.heap.size ≤ g from by
                  rcases hat2 with h | h
                  · exact .inl h
                  · exact .inr ⟨_, h, HGA.out.size⟩)
                clear hown2 hg2 hat2
                refine stepZ 12 rfl (by kernel_rfl) (by rfl) (fun K hK => ?_)
                go_simp
                refine hK.out _ _ hHeld (fun hHeld => ?_)
                clear hK K
                ((refine takeYZ 13 (by kernel_rfl) (v := ?_) rfl (by kernel_rfl) (by kernel_rfl) (by kernel_rfl) (fun _ _ _ h => h) (by rfl) (by assumption) ?_ ?_; rotate_left; · (intro w hSw; (try dsimp only at hSw); go_simp; (first | done | with_reducible rfl))))
                (try simp only [Act.put, List.setIfInBounds_toArray, List.set_cons_zero, List.set_cons_succ])
                refine endZ rfl (by kernel_rfl) (by kernel_rfl) (by rfl) (fun K hK => ?_)
                obtain ⟨hq1, hq2⟩ := hHeld
                obtain ⟨Av, nv, cv, rfl⟩ := own_form HOW.out
                go_simp
                refine hK.out _ _ ?_
                clear hK K hq1 hq2
                have HF := Lib.hid (HDZ.out.at_.put ho10 HG2.out (v := .slice Av nv cv) (xs := R o ++ [(a : Int)]) (by
                  rw [List.length_append, List.map_append]
                  exact HOW.out) HFR.out)
                generalize World.setCell _ _ _ = w4 at *
                have HMX := HG.out.done HC.out HNO.out
                have HSN := Lib.hid (show BSet (fun g p => Bud.Mx (seg x n) g p ∧ g < a + 2 ^ o) (upd R o (R o ++ [(a : Int)])) from (HDZ.out.set.add ho10 (show a < 2097152 by omega) (fun g hg => hg.2)).congr (fun g p => by
                  have hpo := Bud.pow_pos o
                  constructor
                  · rintro ⟨hm, hlt2⟩
                    by_cases e : g < a
                    · exact .inl ⟨hm, e⟩
                    · have := Bud.pow_pos p
                      exact .inr (hm.unique HMX.1 (Nat.le_refl g) (by omega) (by omega) hlt2)
                  · rintro (⟨hm, h2⟩ | ⟨rfl, rfl⟩)
                    · exact ⟨hm, by omega⟩
                    · exact ⟨HMX.1, by omega⟩))
                have HCN := Lib.hid HMX.2
                clear HMX
                obtain ⟨t1, ht1, ht2', ht3'⟩ : ∃ t1 : Nat, (2 : Int) ^ o = (t1 : Int) ∧ t1 = 2 ^ o ∧ t1 ≤ 512 := ⟨2 ^ o, by simp, rfl, by have := Bud.pow_le (show o ≤ 9 by omega); omega⟩
                have HT1 := Lib.hid ht2'
                have htp : 0 < t1 := by rw [ht2']; exact Nat.two_pow_pos _
                clear ht2'
                go_wp2
                simp only [Exit.jump]
                go_roundw
                case rel => exact ⟨_, _, _, _, _, _, _, _, _, _, _, _, _, _, _, _, _, _, _, _, _, _, _, _, _, _, _, _, _, _, _, _, _, _, _, _, _, _, _, _, _, _, _, _, _, _, _, _, _, ⟨a + t1, _, _, by simp, by omega, by rw [HT1.out]; exact HCN.out, ⟨HF.out.1, by rw [HT1.out]; exact HSN.out, Nat.le_trans HDZ.out.room HF.out.2.size⟩, HBZ.out.trans (HF.out.2.to_below (fun k hk => by
                  rcases hk with rfl | ⟨p, hp, e⟩
                  · exact Nat.le_refl _
                  · have := ((HDZ.out.at_.own p hp).lt k e).1
                    omega) HBZ.out.size)⟩, rfl⟩
                case measure => simp [cntI]; omega
              · go_simp
                refine hK.out _ _ hHeld (fun hHeld => ?_)
                clear hK K
                refine stepZ 10 rfl (by kernel_rfl) (by rfl) (fun K hK => ?_)
                (refine wp_append_any _ (.tmp 69) (.tmp 71) _ rfl (w.heap.size + 1) 3 i0 _ 1 8 Try.underlying47 hi0 hz0' hz1 hz2 rfl (by omega) _ (R o).length _ rfl ((HDZ.out.at_.own o (by omega)).kept HGB.out (by cases (vs o).ownBlock with | none => exact .inl rfl | some g => exact .inr (fun e => by cases e))) _ (some ⟨w0.heap.size, 0, none⟩) 1 _ [iv a] rfl (Reads.of_blk1 HC2.out) (by simp; rfl) (by have := HDZ.out.set.len ho10; unfold maxLen; omega) (by have := HDZ.out.set.len ho10; omega) (Nat.le_trans HDZ.out.room HGA.out.size) ?_; intro v2 w3 hown2 hg2 hat2)
                (refine hK.out _ _ ?_ (fun hHeld => ?_))
                · exact SK.out _ (grownBy_tr3 (World.grownBy.refl w0 _) HGA.out hg2)
                clear hK K
                have HG2 := Lib.hid (grownBy_tr3 (World.grownBy.refl w0 _) HGA.out hg2)
                have HOW := Lib.hid hown2
                have HFR := Lib.hid (show v2.ownBlock = (vs o).ownBlock ∨ ∃ g, v2.ownBlock = some g ∧ w0.heap.size ≤ g from by
                  rcases hat2 with h | h
                  · exact .inl h
                  · exact .inr ⟨_, h, HGA.out.size⟩)
                clear hown2 hg2 hat2
                ((refine takeYZ 13 (by kernel_rfl) (v := ?_) rfl (by kernel_rfl) (by kernel_rfl) (by kernel_rfl) (fun _ _ _ h => h) (by rfl) (by assumption) ?_ ?_; rotate_left; · (intro w hSw; (try dsimp only at hSw); go_simp; (first | done | with_reducible rfl))))
                (try simp only [Act.put, List.setIfInBounds_toArray, List.set_cons_zero, List.set_cons_succ])
                refine endZ rfl (by kernel_rfl) (by kernel_rfl) (by rfl) (fun K hK => ?_)
                obtain ⟨hq1, hq2⟩ := hHeld
                obtain ⟨Av, nv, cv, rfl⟩ := own_form HOW.out
                go_simp
                refine hK.out _ _ ?_
                clear hK K hq1 hq2
                have HF := Lib.hid (HDZ.out.at_.put ho10 HG2.out (v := .slice Av nv cv) (xs := R o ++ [(a : Int)]) (by
                  rw [List.length_append, List.map_append]
                  exact HOW.out) HFR.out)
                generalize World.setCell _ _ _ = w4 at *
                have HMX := HG.out.done HC.out HNO.out
                have HSN := Lib.hid (show BSet (fun g p => Bud.Mx (seg x n) g p ∧ g < a + 2 ^ o) (upd R o (R o ++ [(a : Int)])) from (HDZ.out.set.add ho10 (show a < 2097152 by omega) (fun g hg => hg.2)).congr (fun g p => by
                  have hpo := Bud.pow_pos o
                  constructor
                  · rintro ⟨hm, hlt2⟩
                    by_cases e : g < a
                    · exact .inl ⟨hm, e⟩
                    · have := Bud.pow_pos p
                      exact .inr (hm.unique HMX.1 (Nat.le_refl g) (by omega) (by omega) hlt2)
                  · rintro (⟨hm, h2⟩ | ⟨rfl, rfl⟩)
                    · exact ⟨hm, by omega⟩
                    · exact ⟨HMX.1, by omega⟩))
                have HCN := Lib.hid HMX.2
                clear HMX
                obtain ⟨t1, ht1, ht2', ht3'⟩ : ∃ t1 : Nat, (2 : Int) ^ o = (t1 : Int) ∧ t1 = 2 ^ o ∧ t1 ≤ 512 := ⟨2 ^ o, by simp, rfl, by have := Bud.pow_le (show o ≤ 9 by omega); omega⟩
                have HT1 := Lib.hid ht2'
                have htp : 0 < t1 := by rw [ht2']; exact Nat.two_pow_pos _
                clear ht2'
                go_wp2
                simp only [Exit.jump]
                go_roundw
                case rel => exact ⟨_, _, _, _, _, _, _, _, _, _, _, _, _, _, _, _, _, _, _, _, _, _, _, _, _, _, _, _, _, _, _, _, _, _, _, _, _, _, _, _, _, _, _, _, _, _, _, _, _, ⟨a + t1, _, _, by simp, by omega, by rw [HT1.out]; exact HCN.out, ⟨HF.out.1, by rw [HT1.out]; exact HSN.out, Nat.le_trans HDZ.out.room HF.out.2.size⟩, HBZ.out.trans (HF.out.2.to_below (fun k hk => by
                  rcases hk with rfl | ⟨p, hp, e⟩
                  · exact Nat.le_refl _
                  · have := ((HDZ.out.at_.own p hp).lt k e).1
                    omega) HBZ.out.size)⟩, rfl⟩
                case measure => simp [cntI]; omega
            · go_simp
              refine hK.out _ _ hHeld (fun hHeld => ?_)
              clear hK K
              refine stepZ 9 rfl (by kernel_rfl) (by rfl) (fun K hK => ?_)
              go_simp
              (refine hK.out _ _ ?_ (fun hHeld => ?_))
              · exact SK.out _ (only_of_below ((Below.refl _ _).alloc (Nat.le_refl _) _) _)
              clear hK K
              have HC2 := Lib.hid (Blk.new w0 3 #[iv a])
              have HGA := Lib.hid (only_of_below ((Below.refl w0.heap.size w0).alloc (Nat.le_refl _) (.cells #[iv a] 3)) (vs o).ownBlock)
              have HGB := Lib.hid (only_of_below ((Below.refl w0.heap.size w0).alloc (Nat.le_refl _) (.cells #[iv a] 3)) none)
              generalize hwn : w0.alloc (.cells #[iv a] 3) = wa at *
              clear hwn
              refine stepZ 10 rfl (by kernel_rfl) (by rfl) (fun K hK => ?_)
              (refine wp_append_any _ (.tmp 69) (.tmp 71) _ rfl (w.heap.size + 1) 3 i0 _ 1 8 Try.underlying47 hi0 hz0' hz1 hz2 rfl (by omega) _ (R o).length _ rfl ((HDZ.out.at_.own o (by omega)).kept HGB.out (by cases (vs o).ownBlock with | none => exact .inl rfl | some g => exact .inr (fun e => by cases e))) _ (some ⟨w0.heap.size, 0, none⟩) 1 _ [iv a] rfl (Reads.of_blk1 HC2.out) (by simp; rfl) (by have := HDZ.out.set.len ho10; unfold maxLen; omega) (by have := HDZ.out.set.len ho10; omega) (Nat.le_trans HDZ.out.room HGA.out.size) ?_; intro v2 w3 hown2 hg2 hat2)
              (refine hK.out _ _ ?_ (fun hHeld => ?_))
              · exact SK.out _ (grownBy_tr3 (World.grownBy.refl w0 _) HGA.out hg2)
              clear hK K
              have HG2 := Lib.hid (grownBy_tr3 (World.grownBy.refl w0 _) HGA.out hg2)
              have HOW := Lib.hid hown2
              have HFR := Lib.hid (show v2.ownBlock = (vs o).ownBlock ∨ ∃ g, v2.ownBlock = some g ∧ w0.heap.size ≤ g from by
                rcases hat2 with h | h
                · exact .inl h
                · exact .inr ⟨_, h, HGA.out.size⟩)
              clear hown2 hg2 hat2
              ((refine takeYZ 13 (by kernel_rfl) (v := ?_) rfl (by kernel_rfl) (by kernel_rfl) (by kernel_rfl) (fun _ _ _ h => h) (by rfl) (by assumption) ?_ ?_; rotate_left; · (intro w hSw; (try dsimp only at hSw); go_simp; (first | done | with_reducible rfl))))
              (try simp only [Act.put, List.setIfInBounds_toArray, List.set_cons_zero, List.set_cons_succ])
              refine endZ rfl (by kernel_rfl) (by kernel_rfl) (by rfl) (fun K hK => ?_)
              obtain ⟨hq1, hq2⟩ := hHeld
              obtain ⟨Av, nv, cv, rfl⟩ := own_form HOW.out
              go_simp
              refine hK.out _ _ ?_
              clear hK K hq1 hq2
              have HF := Lib.hid (HDZ.out.at_.put ho10 HG2.out (v := .slice Av nv cv) (xs := R o ++ [(a : Int)]) (by
                rw [List.length_append, List.map_append]
                exact HOW.out) HFR.out)
              generalize World.setCell _ _ _ = w4 at *
              have HMX := HG.out.done HC.out HNO.out
              have HSN := Lib.hid (show BSet (fun g p => Bud.Mx (seg x n) g p ∧ g < a + 2 ^ o) (upd R o (R o ++ [(a : Int)])) from (HDZ.out.set.add ho10 (show a < 2097152 by omega) (fun g hg => hg.2)).congr (fun g p => by
                have hpo := Bud.pow_pos o
                constructor
                · rintro ⟨hm, hlt2⟩
                  by_cases e : g < a
                  · exact .inl ⟨hm, e⟩
                  · have := Bud.pow_pos p
                    exact .inr (hm.unique HMX.1 (Nat.le_refl g) (by omega) (by omega) hlt2)
                · rintro (⟨hm, h2⟩ | ⟨rfl, rfl⟩)
                  · exact ⟨hm, by omega⟩
                  · exact ⟨HMX.1, by omega⟩))
              have HCN := Lib.hid HMX.2
              clear HMX
              obtain ⟨t1, ht1, ht2', ht3'⟩ : ∃ t1 : Nat, (2 : Int) ^ o = (t1 : Int) ∧ t1 = 2 ^ o ∧ t1 ≤ 512 := ⟨2 ^ o, by simp, rfl, by have := Bud.pow_le (show o ≤ 9 by omega); omega⟩
              have HT1 := Lib.hid ht2'
              have htp : 0 < t1 := by rw [ht2']; exact Nat.two_pow_pos _
              clear ht2'
              go_wp2
              simp only [Exit.jump]
              go_roundw
              case rel => exact ⟨_, _, _, _, _, _, _, _, _, _, _, _, _, _, _, _, _, _, _, _, _, _, _, _, _, _, _, _, _, _, _, _, _, _, _, _, _, _, _, _, _, _, _, _, _, _, _, _, _, ⟨a + t1, _, _, by simp, by omega, by rw [HT1.out]; exact HCN.out, ⟨HF.out.1, by rw [HT1.out]; exact HSN.out, Nat.le_trans HDZ.out.room HF.out.2.size⟩, HBZ.out.trans (HF.out.2.to_below (fun k hk => by
                rcases hk with rfl | ⟨p, hp, e⟩
                · exact Nat.le_refl _
                · have := ((HDZ.out.at_.own p hp).lt k e).1
                  omega) HBZ.out.size)⟩, rfl⟩
              case measure => simp [cntI]; omega
      · have HJ := Lib.hid hpass
        clear hpass
        go_wp2_with fail
        go_step3
        rename_i hk
        refine hk _ _ (HJ.out _ _ ?_)
        exact ⟨0, vs, R, HG.out, HD.out, HBL.out, _, _, _, _, _, _, _, _, _, _, _, _, _, _, _, _, _, _, _, _, _, _, _, _, _, _, _, _, _, _, _, _, _, _, _, _, _, _, _, _, _, rfl⟩
    · have e1 : decide ((a : Int) < (en : Int)) = false := by simp; omega
      go_wp2
      go_ret2
      refine ⟨rfl, vs, R, ⟨HD.out.at_, HD.out.set.congr (fun f o => ⟨fun hm => ⟨hm, ?_⟩, fun hm => hm.1⟩), HD.out.room⟩, HBL.out⟩
      have := seg_iff.1 (hm.all f (Nat.le_refl _) (by have := Bud.pow_pos o; omega))
      have := HE.out
      omega
end Go.Proofs.Ytmmjkebhcihjlaa
