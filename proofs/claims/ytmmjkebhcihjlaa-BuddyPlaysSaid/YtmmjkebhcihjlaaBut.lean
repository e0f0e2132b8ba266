/- Package buddy: Take. -/
import Derived.Test.YtmmjkebhcihjlaaBul
import Derived.ScopeJumps
import Derived.Deep.DeepCutAuto
import Derived.Deep.CutBlock
namespace Go.Proofs.Ytmmjkebhcihjlaa
open Go.RowKit

/-- A buddy over a set of frames. -/
structure Bdy (w : World) (c base : Nat) (fi en fr : Int) (vs : Nat → Value) (R : Nat → List Int) (M : Nat → Nat → Prop) : Prop where
  at_ : BudAt w c base fi en fr vs R
  set : BSet M R
  room : base ≤ w.heap.size

/-- The blocks of a buddy, behind a turn: old ones of its own, or new. -/
def Moved (w : World) (vs vs' : Nat → Value) : Prop := ∀ o g, o < 10 → (vs' o).ownBlock = some g → w.heap.size ≤ g ∨ ∃ p, p < 10 ∧ (vs p).ownBlock = some g

theorem Moved.refl (w : World) (vs : Nat → Value) : Moved w vs vs := fun o _ ho h => .inr ⟨o, ho, h⟩
theorem moved_only {w w1 w2 : World} {c : Nat} {vs v1 : Nat → Value} (hm : Moved w vs v1) (h1 : Only (BS c vs) w w1) (h2 : Only (BS c v1) w1 w2) : Only (BS c vs) w w2 :=
  ⟨h2.os.trans h1.os, h2.tape.trans h1.tape, h2.output.trans h1.output, Nat.le_trans h1.size h2.size, fun k hk hn => (h2.block k (Nat.lt_of_lt_of_le hk h1.size) (fun hs => by
    rcases hs with rfl | ⟨o, ho, e⟩
    · exact hn (.inl rfl)
    · rcases hm o k ho e with h | ⟨p, hp, e2⟩
      · omega
      · exact hn (.inr ⟨p, hp, e2⟩))).trans (h1.block k hk hn)⟩
theorem moved_put {w w1 : World} {vs v1 : Nat → Value} {o : Nat} {v : Value} (hm : Moved w vs v1) (hs : w.heap.size ≤ w1.heap.size) (hv : v.ownBlock = (v1 o).ownBlock ∨ ∃ g, v.ownBlock = some g ∧ w1.heap.size ≤ g) (ho : o < 10) : Moved w vs (upd v1 o v) := fun p g hp h => by
  unfold upd at h
  by_cases e : p = o
  · rw [if_pos e] at h
    rcases hv with hv | ⟨g', hv, hg⟩
    · exact hm o g ho (by rw [← hv]; exact h)
    · rw [hv] at h
      cases h
      exact .inl (by omega)
  · rw [if_neg e] at h; exact hm p g hp h

/-- The runs, when halves have been put back down to j. -/
def Mj (M : Nat → Nat → Prop) (f k j : Nat) : Nat → Nat → Prop := fun g p => (M g p ∧ ¬ (g = f ∧ p = k)) ∨ ∃ i, j ≤ i ∧ i < k ∧ g = f + 2 ^ i ∧ p = i

theorem Mj.step {M : Nat → Nat → Prop} {f k j : Nat} (hj : j < k) (g p : Nat) : Mj M f k j g p ↔ Mj M f k (j + 1) g p ∨ (g = f + 2 ^ j ∧ p = j) := by
  unfold Mj
  constructor
  · rintro (h | ⟨i, a, b, c, d⟩)
    · exact .inl (.inl h)
    · by_cases e : i = j
      · subst e; exact .inr ⟨c, d⟩
      · exact .inl (.inr ⟨i, by omega, b, c, d⟩)
  · rintro ((h | ⟨i, a, b, c, d⟩) | ⟨a, b⟩)
    · exact .inl h
    · exact .inr ⟨i, by omega, b, c, d⟩
    · exact .inr ⟨j, Nat.le_refl _, hj, a, b⟩

def JT (w : World) (c base o : Nat) (fi en fr : Int) (vs : Nat → Value) (M : Nat → Nat → Prop) (f k : Nat) (a' : Act) (w' : World) : Prop :=
  ∃ (j : Nat) (v1 : Nat → Value) (R1 : Nat → List Int), a'.tmps[6]? = some (.int .i64 j) ∧ o ≤ j ∧ j ≤ k ∧ Bdy w' c base fi en fr v1 R1 (Mj M f k j) ∧ Moved w vs v1 ∧ Only (BS c vs) w w' ∧ a'.defers = [] ∧ ∃ u8 u9 u10 u11 u12 u13 u14 u15 u16 u17 u18 u19 u20 u21 u22 u23 u24 u25 u26 u27 u28 u29 u30 u31 u32 u33 u34 u35 u36 u37 u38 u39 u40 u41 u42 u43 u44 u45 u46 u47 u48 u49 u50 u51 u52 u53 u54 u55 u56 u57 u58 u59 u60 u61 u62 u63 u64, a' = { tmps := #[.pointer (some ⟨c, 0, none⟩), .int .i64 o, undef, undef, .int .i64 0, .int .i64 0, .int .i64 j, .int .i64 f, u8, u9, u10, u11, u12, u13, u14, u15, u16, u17, u18, u19, u20, u21, u22, u23, u24, u25, u26, u27, u28, u29, u30, u31, u32, u33, u34, u35, u36, u37, u38, u39, u40, u41, u42, u43, u44, u45, u46, u47, u48, u49, u50, u51, u52, u53, u54, u55, u56, u57, u58, u59, u60, u61, u62, u63, u64], defers := [] }

theorem BudAt.head {w : World} {c base : Nat} {fi en fr : Int} {vs : Nat → Value} {R : Nat → List Int} (h : BudAt w c base fi en fr vs R) {o : Nat} (ho : o < 10) {x : Int} {rest : List Int} (hr : R o = x :: rest) :
    ∃ ga cc, vs o = .slice (some ⟨ga, 0, none⟩) (rest.length + 1) cc ∧ w.cell? ⟨ga, 0, none⟩ = some (.int .i64 x) := by
  have h1 := h.own o ho
  rw [hr] at h1
  obtain ⟨A, m, cc, hv⟩ := own_form h1
  rw [hv] at h1 ⊢
  rcases h1.2 with ⟨e, h0⟩ | ⟨g, cap, cur, e, _⟩
  · simp at h0
  · injection e with e1 e2 e3
    subst e1 e2 e3
    exact ⟨g, _, rfl, (h1.cellAt 0 (by simp)).trans rfl⟩

def KR (w : World) (R : Nat → List Int) (o : Nat) (v : Value) (wr : World) : Prop := ∃ k : Nat, v = .int .i64 k ∧ o ≤ k ∧ k ≤ 10 ∧ (∀ p, o ≤ p → p < k → R p = []) ∧ wr = w

set_option maxRecDepth 100000 in
set_option maxHeartbeats 4000000 in
theorem btake_none (c base o : Nat) (fi en fr : Int) (vs : Nat → Value) (R : Nat → List Int) (M : Nat → Nat → Prop) (w : World) (h : Bdy w c base fi en fr vs R M) (ho : o < 10) (hno : ∀ f p, p < 10 → o ≤ p → ¬ M f p) :
    Calls Try.prog 11 #[.pointer (some ⟨c, 0, none⟩), .int .i64 o] w fun e w' => e = .returned (.tuple #[.int .i64 0, .int .i64 10]) ∧ w = w' := by
  have HB := Lib.hid h.at_
  have HE := Lib.hid (show ∀ p, p < 10 → o ≤ p → R p = [] from fun p hp hop => by
    rw [List.eq_nil_iff_forall_not_mem]
    intro x hx
    obtain ⟨f, _, hm⟩ := (h.set.mem p hp x).1 hx
    exact hno f p hp hop hm)
  clear h hno
  go_enter Try.func11, Try.ntmps11
  go_wp2_with fail
  refine wp_scope_jumps 0 (fun _ _ => False) (fun _ _ => 0) rfl ?_ (fun _ _ h => h.elim)
  go_wp2_with fail
  go_loopw [6] (KR w R o) (fun v _ => 10 - cntI v)
  case atStart => exact ⟨o, rfl, Nat.le_refl _, by omega, fun p h1 h2 => by omega, rfl⟩
  case round =>
    obtain ⟨k, rfl, hok, hk, hp, rfl⟩ := hrel
    have HP := Lib.hid hp
    clear hp
    by_cases hk10 : k < 10
    · have c0 := HB.out.cr hk10
      obtain ⟨A, m, cc, hv⟩ := HB.out.form hk10
      have hm : m = 0 := by
        have h1 := (HB.out.own k hk10)
        rw [HE.out k hk10 hok, hv] at h1
        rcases h1.2 with ⟨e, _⟩ | ⟨g, cap, cur, e, _⟩
        · cases e; rfl
        · injection e
      subst hm
      rw [hv] at c0
      have HPK := Lib.hid (show ∀ p, o ≤ p → p < k + 1 → R p = [] from fun p h1 h2 => HE.out p (by omega) h1)
      clear hv
      go_wp2
      go_roundw
      case rel => exact ⟨k + 1, by go_num, by omega, by omega, HPK.out, rfl⟩
      case measure => simp [cntI]; omega
    · obtain rfl : k = 10 := by omega
      go_wp2
      simp only [Exit.jump]
      go_ret2
      exact ⟨rfl, rfl⟩

theorem BudAt.free {w : World} {c base : Nat} {fi en fr fr' : Int} {vs : Nat → Value} {R : Nat → List Int} (h : BudAt w c base fi en fr vs R) : BudAt (w.setCell ⟨c, 12, none⟩ (.int .i64 fr')).drew c base fi en fr' vs R := by
  have hs : w.grownBy (w.setCell ⟨c, 12, none⟩ (.int .i64 fr')) (some c) := only_setCell (World.grownBy.refl w _) (.inl rfl) _
  refine ⟨?_, fun p hp => ?_, h.lo, h.apart⟩
  · exact h.blk.set_ 12 (.int .i64 fr')
  · have := (h.own p hp).kept hs (.inr fun e => by
      have := ((h.own p hp).lt c e).1
      have := h.lo
      omega)
    exact this
theorem Bdy.free {w : World} {c base : Nat} {fi en fr fr' : Int} {vs : Nat → Value} {R : Nat → List Int} {M : Nat → Nat → Prop} (h : Bdy w c base fi en fr vs R M) : Bdy (w.setCell ⟨c, 12, none⟩ (.int .i64 fr')).drew c base fi en fr' vs R M :=
  ⟨h.at_.free, h.set, Nat.le_trans h.room (by simp [World.setCell])⟩

set_option maxRecDepth 100000 in
set_option maxHeartbeats 4000000 in
theorem btake_some (c base o k f : Nat) (fi en fr : Int) (vs : Nat → Value) (R : Nat → List Int) (M : Nat → Nat → Prop) (w : World) (h : Bdy w c base fi en fr vs R M) (hok : o ≤ k) (hk10 : k < 10) (hmin : ∀ g p, o ≤ p → p < k → ¬ M g p) (hf : M f k) (hleast : ∀ g, M g k → f ≤ g)
    (hfb : f + 2 ^ k ≤ 2097152) (hfr : -10000000 ≤ fr ∧ fr ≤ 10000000) :
    Calls Try.prog 11 #[.pointer (some ⟨c, 0, none⟩), .int .i64 o] w fun e w' => e = .returned (.tuple #[.int .i64 f, .int .i64 0]) ∧ ∃ v1 R1, Bdy w' c base fi en (fr - 2 ^ o) v1 R1 (Mj M f k o) ∧ Moved w vs v1 ∧ Only (BS c vs) w w' := by
  have HD := Lib.hid h
  have HE := Lib.hid (show ∀ p, p < k → o ≤ p → R p = [] from fun p hp hop => by
    rw [List.eq_nil_iff_forall_not_mem]
    intro x hx
    obtain ⟨g, _, hm⟩ := (h.set.mem p (by omega) x).1 hx
    exact hmin g p hop hp hm)
  have hmem : (f : Int) ∈ R k := (h.set.mem k hk10 _).2 ⟨f, rfl, hf⟩
  obtain ⟨rest, hrest⟩ : ∃ rest, R k = (f : Int) :: rest := by
    have hs := h.set.srt k hk10
    cases hR : R k with
    | nil => rw [hR] at hmem; cases hmem
    | cons a rest =>
      rw [hR] at hmem hs
      have ha : a ∈ R k := by rw [hR]; exact List.mem_cons_self ..
      obtain ⟨g, e, hg⟩ := (h.set.mem k hk10 a).1 ha
      have h1 := hleast g hg
      rcases List.mem_cons.1 hmem with h2 | h2
      · exact ⟨rest, by rw [h2]⟩
      · have := (List.pairwise_cons.1 hs).1 _ h2
        omega
  have HRS := Lib.hid hrest
  have HF := Lib.hid hf
  have HMIN := Lib.hid hmin
  have HMEM := Lib.hid hmem
  clear h hmin hleast hmem hrest hf
  go_enter Try.func11, Try.ntmps11
  go_wp2_with fail
  refine wp_scope_jumps 0 (JT w c base o fi en fr vs M f k) (fun a' _ => cntI (a'.tmps.getD 6 undef)) rfl ?_ ?_
  · go_wp2_with fail
    go_loopw [6] (KR w R o) (fun v _ => 10 - cntI v)
    case atStart => exact ⟨o, rfl, Nat.le_refl _, by omega, fun p h1 h2 => by omega, rfl⟩
    case round =>
      obtain ⟨q, rfl, hoq, hq, hp, rfl⟩ := hrel
      have HP := Lib.hid hp
      clear hp
      by_cases hqk : q < k
      · have c0 := HD.out.at_.cr (show q < 10 by omega)
        obtain ⟨A, m, cc, hv⟩ := HD.out.at_.form (show q < 10 by omega)
        have hm : m = 0 := by
          have h1 := (HD.out.at_.own q (by omega))
          rw [HE.out q hqk hoq, hv] at h1
          rcases h1.2 with ⟨e, _⟩ | ⟨g, cap, cur, e, _⟩
          · cases e; rfl
          · injection e
        subst hm
        rw [hv] at c0
        have HPK := Lib.hid (show ∀ p, o ≤ p → p < q + 1 → R p = [] from fun p h1 h2 => HE.out p (by omega) h1)
        clear hv
        go_wp2
        go_roundw
        case rel => exact ⟨q + 1, by go_num, by omega, by omega, HPK.out, rfl⟩
        case measure => simp [cntI]; omega
      · have hqk2 : q = k := by
          apply Classical.byContradiction
          intro hn
          have := HP.out k hok (by omega)
          rw [HRS.out] at this
          cases this
        subst hqk2
        obtain ⟨ga, cc, hv, hca⟩ := HD.out.at_.head hk10 HRS.out
        have c0 := HD.out.at_.cr hk10
        rw [hv] at c0
        have HV := Lib.hid hv
        have CUT := Lib.hid (bcut_yes c base q fi en fr f vs R wr HD.out.at_ hk10 (HD.out.set.srt q hk10) (Nat.le_trans (HD.out.set.len hk10) (by omega)) HMEM.out)
        clear hv
        go_wp2_with fail
        refine CUT.out.mono ?_
        rintro e w1 ⟨rfl, v', hb1, ho1, hfr1⟩
        have HD1 := Lib.hid (show Bdy w1 c base fi en fr (upd vs q v') (upd R q (cutL f (R q))) (Mj M f q q) from ⟨hb1, (HD.out.set.cut hk10 HF.out).congr (fun g p => by
          unfold Mj
          constructor
          · rintro (h | ⟨i, a, b, _⟩)
            · exact h
            · omega
          · exact .inl), Nat.le_trans HD.out.room ho1.size⟩)
        have HM1 := Lib.hid (moved_put (Moved.refl wr vs) (Nat.le_refl _) hfr1 hk10)
        have HO1 := Lib.hid ho1
        clear hb1 ho1 hfr1 CUT c0 hca
        have hjq : q ≤ q := Nat.le_refl _
        go_wp2_with fail
        go_step3
        by_cases hjo : o < q
        · have g1 : decide ((o : Int) < (q : Int)) = true := by simp; omega
          have g2 : decide (o < q) = true := by simp; omega
          obtain ⟨i, hi⟩ : ∃ i, i = q - 1 := ⟨_, rfl⟩
          have ei : (q : Int) - 1 = (i : Int) := by omega
          have hi10 : i < 10 := by omega
          have hik : i < q := by omega
          have hoi : o ≤ i := by omega
          obtain ⟨t, ht, ht2, ht3⟩ : ∃ t : Nat, (2 : Int) ^ i = (t : Int) ∧ t ≤ 512 ∧ t = 2 ^ i := ⟨2 ^ i, by simp, by have := Bud.pow_le (show i ≤ 9 by omega); omega, rfl⟩
          obtain ⟨y, hy, hy2, hy3⟩ : ∃ y : Nat, (f : Int) + (t : Int) = (y : Int) ∧ y < 2097152 ∧ y = f + 2 ^ i := ⟨f + t, by omega, by
            have := Bud.pow_le (show i + 1 ≤ q by omega)
            have e := Bud.pow_succ' i
            have := Bud.pow_pos i
            omega, by rw [ht3]⟩
          have HY := Lib.hid hy3
          have HI := Lib.hid hi
          clear hi ht3 hy3
          go_wp2_with fail
          refine (bput_any c base i fi en fr y _ _ _ HD1.out.at_ hi10 (HD1.out.set.srt i hi10) (Nat.le_trans (HD1.out.set.len hi10) (by omega)) HD1.out.room).mono ?_
          rintro e w2 ⟨rfl, v2, hb2, ho2, hf2⟩
          have HD2 := Lib.hid (show Bdy w2 c base fi en fr _ _ (Mj M f q i) from ⟨hb2, (HD1.out.set.put hi10 hy2 (fun hc => by
            rcases hc with hc | ⟨i', a, b, _, e2⟩
            · exact HMIN.out _ i hoi hik hc.1
            · have := HI.out; omega)).congr (fun g p => by
              rw [Mj.step hik, HY.out, show i + 1 = q by have := HI.out; omega]), Nat.le_trans HD1.out.room ho2.size⟩)
          have HM2 := Lib.hid (moved_put HM1.out HO1.out.size hf2 hi10)
          have HO2 := Lib.hid (moved_only HM1.out HO1.out ho2)
          clear hb2 ho2 hf2
          go_wp2
          go_step3
          exact ⟨rfl, ⟨i, _, _, rfl, hoi, by omega, HD2.out, HM2.out, HO2.out, rfl, _, _, _, _, _, _, _, _, _, _, _, _, _, _, _, _, _, _, _, _, _, _, _, _, _, _, _, _, _, _, _, _, _, _, _, _, _, _, _, _, _, _, _, _, _, _, _, _, _, _, _, _, _, _, _, _, _, rfl⟩⟩
        · have g1 : decide ((o : Int) < (q : Int)) = false := by simp; omega
          have g2 : decide (o < q) = false := by simp; omega
          have hjo2 : q = o := by omega
          have HJO := Lib.hid hjo2
          clear hjo2
          obtain ⟨t, ht, ht2, ht3⟩ : ∃ t : Nat, (2 : Int) ^ o = (t : Int) ∧ t ≤ 512 ∧ t = 2 ^ o := ⟨2 ^ o, by simp, by have := Bud.pow_le (show o ≤ 9 by omega); omega, rfl⟩
          have HT := Lib.hid (show fr - (t : Int) = fr - 2 ^ o by rw [ht])
          have c12 : w1.cell? ⟨c, 12, none⟩ = some (.int .i64 fr) := HD1.out.at_.blk.cell 12
          have z12 := HD1.out.at_.frozen 12
          obtain ⟨hfr1, hfr2⟩ := hfr
          clear ht3
          go_wp2_with fail
          go_region
          all_goals go_wp2
          simp only [Exit.jump]
          go_ret2
          refine ⟨rfl, (upd vs q v'), (upd R q (cutL f (R q))), ?_, HM1.out, moved_only HM1.out HO1.out (((Only.refl (BS c _) _).setCell (p := ⟨c, 12, none⟩) (.inl (.inl rfl)) _).drew)⟩
          rw [← HT.out, ← HJO.out]
          exact HD1.out.free
  · rintro a' w1 ⟨j, v1, R1, _, hoj, hjk, hbd, hmv, hon, _, u8, u9, u10, u11, u12, u13, u14, u15, u16, u17, u18, u19, u20, u21, u22, u23, u24, u25, u26, u27, u28, u29, u30, u31, u32, u33, u34, u35, u36, u37, u38, u39, u40, u41, u42, u43, u44, u45, u46, u47, u48, u49, u50, u51, u52, u53, u54, u55, u56, u57, u58, u59, u60, u61, u62, u63, u64, rfl⟩
    have HD1 := Lib.hid hbd
    have HM1 := Lib.hid hmv
    have HO1 := Lib.hid hon
    clear hbd hmv hon
    by_cases hjo : o < j
    · have g1 : decide ((o : Int) < (j : Int)) = true := by simp; omega
      have g2 : decide (o < j) = true := by simp; omega
      obtain ⟨i, hi⟩ : ∃ i, i = j - 1 := ⟨_, rfl⟩
      have ei : (j : Int) - 1 = (i : Int) := by omega
      have hi10 : i < 10 := by omega
      have hik : i < k := by omega
      have hoi : o ≤ i := by omega
      obtain ⟨t, ht, ht2, ht3⟩ : ∃ t : Nat, (2 : Int) ^ i = (t : Int) ∧ t ≤ 512 ∧ t = 2 ^ i := ⟨2 ^ i, by simp, by have := Bud.pow_le (show i ≤ 9 by omega); omega, rfl⟩
      obtain ⟨y, hy, hy2, hy3⟩ : ∃ y : Nat, (f : Int) + (t : Int) = (y : Int) ∧ y < 2097152 ∧ y = f + 2 ^ i := ⟨f + t, by omega, by
        have := Bud.pow_le (show i + 1 ≤ k by omega)
        have e := Bud.pow_succ' i
        have := Bud.pow_pos i
        omega, by rw [ht3]⟩
      have HY := Lib.hid hy3
      have HI := Lib.hid hi
      clear hi ht3 hy3
      go_wp2_with fail
      refine (bput_any c base i fi en fr y _ _ _ HD1.out.at_ hi10 (HD1.out.set.srt i hi10) (Nat.le_trans (HD1.out.set.len hi10) (by omega)) HD1.out.room).mono ?_
      rintro e w2 ⟨rfl, v2, hb2, ho2, hf2⟩
      have HD2 := Lib.hid (show Bdy w2 c base fi en fr _ _ (Mj M f k i) from ⟨hb2, (HD1.out.set.put hi10 hy2 (fun hc => by
        rcases hc with hc | ⟨i', a, b, _, e2⟩
        · exact HMIN.out _ i hoi hik hc.1
        · have := HI.out; omega)).congr (fun g p => by
          rw [Mj.step hik, HY.out, show i + 1 = j by have := HI.out; omega]), Nat.le_trans HD1.out.room ho2.size⟩)
      have HM2 := Lib.hid (moved_put HM1.out HO1.out.size hf2 hi10)
      have HO2 := Lib.hid (moved_only HM1.out HO1.out ho2)
      clear hb2 ho2 hf2
      go_wp2
      go_step3
      exact ⟨rfl, ⟨i, _, _, rfl, hoi, by omega, HD2.out, HM2.out, HO2.out, rfl, _, _, _, _, _, _, _, _, _, _, _, _, _, _, _, _, _, _, _, _, _, _, _, _, _, _, _, _, _, _, _, _, _, _, _, _, _, _, _, _, _, _, _, _, _, _, _, _, _, _, _, _, _, _, _, _, _, rfl⟩, by simp [cntI]; have := HI.out; omega⟩
    · have g1 : decide ((o : Int) < (j : Int)) = false := by simp; omega
      have g2 : decide (o < j) = false := by simp; omega
      have hjo2 : j = o := by omega
      have HJO := Lib.hid hjo2
      clear hjo2
      obtain ⟨t, ht, ht2, ht3⟩ : ∃ t : Nat, (2 : Int) ^ o = (t : Int) ∧ t ≤ 512 ∧ t = 2 ^ o := ⟨2 ^ o, by simp, by have := Bud.pow_le (show o ≤ 9 by omega); omega, rfl⟩
      have HT := Lib.hid (show fr - (t : Int) = fr - 2 ^ o by rw [ht])
      have c12 : w1.cell? ⟨c, 12, none⟩ = some (.int .i64 fr) := HD1.out.at_.blk.cell 12
      have z12 := HD1.out.at_.frozen 12
      obtain ⟨hfr1, hfr2⟩ := hfr
      clear ht3
      go_wp2_with fail
      go_region
      all_goals go_wp2
      simp only [Exit.jump]
      go_ret2
      refine ⟨rfl, v1, R1, ?_, HM1.out, moved_only HM1.out HO1.out (((Only.refl (BS c _) _).setCell (p := ⟨c, 12, none⟩) (.inl (.inl rfl)) _).drew)⟩
      rw [← HT.out, ← HJO.out]
      exact HD1.out.free

theorem btake_bad (c : Nat) (x : Int) (w : World) (hx : x < 0 ∨ 10 ≤ x) :
    Calls Try.prog 11 #[.pointer (some ⟨c, 0, none⟩), .int .i64 x] w fun e w' => e = .returned (.tuple #[.int .i64 0, .int .i64 1]) ∧ w = w' := by
  rcases hx with hx | hx
  · have g1 : decide (x < 0) = true := by simp; omega
    go_enter Try.func11, Try.ntmps11
    go_wp2_with fail
    refine wp_scope_jumps 0 (fun _ _ => False) (fun _ _ => 0) rfl ?_ (fun _ _ h => h.elim)
    go_wp2
    simp only [Exit.jump]
    go_ret2
    exact ⟨rfl, rfl⟩
  · have g1 : decide (x < 0) = false := by simp; omega
    have g2 : decide (10 ≤ x) = true := by simp; omega
    go_enter Try.func11, Try.ntmps11
    go_wp2_with fail
    refine wp_scope_jumps 0 (fun _ _ => False) (fun _ _ => 0) rfl ?_ (fun _ _ h => h.elim)
    go_wp2
    simp only [Exit.jump]
    go_ret2
    exact ⟨rfl, rfl⟩

theorem bfree_any (c base : Nat) (fi en fr : Int) (vs : Nat → Value) (R : Nat → List Int) (w : World) (h : BudAt w c base fi en fr vs R) :
    Calls Try.prog 15 #[.pointer (some ⟨c, 0, none⟩)] w fun e w' => e = .returned (.int .i64 fr) ∧ w = w' := by
  have c12 : w.cell? ⟨c, 12, none⟩ = some (.int .i64 fr) := h.blk.cell 12
  clear h
  go_enter Try.func15, Try.ntmps15
  go_wp2
  go_ret
  exact ⟨rfl, rfl⟩
end Go.Proofs.Ytmmjkebhcihjlaa
