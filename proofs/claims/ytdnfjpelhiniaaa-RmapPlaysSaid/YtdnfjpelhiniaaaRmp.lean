/- The document's own answer for package rmap: Add. -/
import Derived.Test.YtdnfjpelhiniaaaRmo
import Derived.Test.YtdnfjpelhiniaaaTakz
namespace Go.Proofs.Ytdnfjpelhiniaaa
open Go.RowKit Mf

/-- What a call that turns the reference may turn. -/
def Rs (c : Nat) (v : Value) : Nat → Prop := fun g => g = c ∨ v.ownBlock = some g
/-- Behind a call that turns the reference. -/
def RuTo (w w' : World) (c B : Nat) (v : Value) (ys : List Us) : Prop := ∃ v', RU w' c B v' ys ∧ Only (Rs c v) w w' ∧ ∀ g, v'.ownBlock = some g → v.ownBlock = some g ∨ w.heap.size ≤ g
def raddL (u : Int → Plc → Bool) (xs : List Us) (f : Int) (p : Plc) : List Us := if f < 0 then xs else if u f p then xs else xs ++ [(f, p)]
theorem USim.add {xs : List Us} {u : Int → Plc → Bool} (h : USim xs u) (f : Int) (p : Plc) : USim (raddL u xs f p) (addU u f p) := by
  unfold raddL addU
  by_cases hf : f < 0
  · rw [if_pos hf, if_pos hf]; exact h
  · rw [if_neg hf, if_neg hf]
    cases hu : u f p
    · rw [if_neg (by decide)]
      refine ⟨?_, fun k q => ?_⟩
      · rw [List.pairwise_append]
        refine ⟨h.1, List.pairwise_singleton _ _, fun a ha b hb e => ?_⟩
        rw [List.mem_singleton] at hb
        subst hb; subst e
        have := (h.2 f p).1 ha
        rw [hu] at this; cases this
      · rw [List.mem_append, List.mem_singleton, h.2 k q]
        show _ ↔ (if k = f ∧ q = p then true else u k q) = true
        by_cases e : k = f ∧ q = p
        · rw [if_pos e]; simp [e.1, e.2]
        · rw [if_neg e]
          constructor
          · rintro (h1 | h1)
            · exact h1
            · injection h1 with h1 h2; exact absurd ⟨h1, h2⟩ e
          · exact .inl
    · rw [if_pos rfl]
      refine ⟨h.1, fun k q => ?_⟩
      rw [h.2 k q]
      show _ ↔ (if k = f ∧ q = p then true else u k q) = true
      by_cases e : k = f ∧ q = p
      · rw [if_pos e, e.1, e.2, hu]
      · rw [if_neg e]
theorem raddL_len (u : Int → Plc → Bool) (xs : List Us) (f : Int) (p : Plc) : (raddL u xs f p).length ≤ xs.length + 1 := by
  unfold raddL
  split
  · omega
  · split <;> simp
theorem RuTo.same {w w' : World} {c B : Nat} {v : Value} {xs : List Us} (h : RU w c B v xs) (hb : Below w.heap.size w w') : RuTo w w' c B v xs := ⟨v, h.below hb, only_fresh hb, fun _ hg => .inl hg⟩

theorem infoU : (Try.prog.info? 54).map (fun i => (i.zero, i.size, i.bytes)) = some (some (.agg #[.int .i64 0, .int .i64 0, .int .u64 0]), 3, 24) := by kernel_rfl
theorem reads_use {w : World} {g : Nat} {t : TypeId} {x : Us} (h : Blk w g t #[.int .i64 x.1, .int .i64 x.2.1.1, .int .u64 x.2.1.2]) : Reads w w.heap.size 3 (some ⟨g, 0, none⟩) 1 (uc x) := by
  refine ⟨rfl, fun _ => ⟨_, rfl, h.lt, fun j u hj => ?_⟩⟩
  match j, hj with
  | 0, hj => cases hj; exact (h.cell 0).trans rfl
  | 1, hj => cases hj; exact (h.cell 1).trans rfl
  | 2, hj => cases hj; exact (h.cell 2).trans rfl
  | j + 3, hj => cases hj
theorem own_form2 {w : World} {base size n : Nat} {e : TypeId} {v : Value} {xs : List Value} (h : w.ownsRow base e size v n xs) : ∃ A m c, v = .slice A m c := by
  rcases h.2 with ⟨rfl, _⟩ | ⟨g, cap, cur, rfl, _⟩
  · exact ⟨_, _, _, rfl⟩
  · exact ⟨_, _, _, rfl⟩
theorem uc_one (x : Us) : ∀ u ∈ uc x, u.oneCell' = true := fun u hu => by
  simp [uc] at hu
  rcases hu with rfl | rfl | rfl <;> rfl
theorem own_lt {w : World} {base size n : Nat} {e : TypeId} {v : Value} {xs : List Value} (h : w.ownsRow base e size v n xs) {g : Nat} (hg : v.ownBlock = some g) : base ≤ g ∧ g < w.heap.size := h.lt g hg

set_option maxRecDepth 100000 in
set_option maxHeartbeats 8000000 in
theorem ruadd {w : World} {c B : Nat} {v : Value} {xs : List Us} {u : Int → Plc → Bool} (h : RU w c B v xs) (hs : USim xs u) (hn : xs.length ≤ 900) (hB : B ≤ w.heap.size) (f : Int) (p : Plc) :
    Calls Try.prog 8 #[.pointer (some ⟨c, 0, none⟩), .int .i64 f, .agg #[.int .i64 p.1.1, .int .u64 p.1.2]] w fun e w' => e = .returned (.int .i64 (addE u f p)) ∧ RuTo w w' c B v (raddL u xs f p) := by
  have hb := (Below.refl w.heap.size w).alloc (Nat.le_refl _) (.cells #[.int .i64 p.1.1, .int .u64 p.1.2] 31)
  unfold addE raddL
  by_cases hf : f < 0
  · have g0 : decide (f < 0) = true := by simp; exact hf
    rw [if_pos hf, if_pos hf]
    have HT := Lib.hid (RuTo.same h hb)
    clear h hb hf
    go_enter Try.func8, Try.ntmps8
    go_wp2
    go_ret
    exact ⟨rfl, HT.out⟩
  · have g0 : decide (f < 0) = false := by simp; omega
    rw [if_neg hf, if_neg hf]
    have HB := Lib.hid hb
    have HH := Lib.hid h
    have HS := Lib.hid hs
    have C := Lib.hid (ruat (h.below hb) (by omega) f p)
    have HBX := Lib.hid (Blk.new w 31 #[.int .i64 p.1.1, .int .u64 p.1.2])
    have e0 := (HBX.out.cell 0).trans rfl
    have e1 := (HBX.out.cell 1).trans rfl
    clear h hb hs hf
    cases hu : u f p
    · rw [if_neg (by decide), if_neg (by decide)]
      have HU := Lib.hid hu
      clear hu
      go_enter Try.func8, Try.ntmps8
      go_wp2_with fail
      refine C.out.mono ?_; rintro e w1 ⟨z, rfl, hz, hb1⟩
      obtain rfl := hz.no HS.out HU.out
      have HB1 := Lib.hid (HB.out.trans (hb1.mono HB.out.size))
      have HBX1 := Lib.hid (HBX.out.below hb1 HBX.out.lt)
      have HR := Lib.hid (HH.out.below HB1.out)
      clear hz hb1 e0 e1 C HB HBX
      obtain ⟨A, cc, rfl⟩ := HR.out.own.form
      have HR0 := Lib.hid HH.out.own
      have hlt1 := HB1.out.size
      have e0 : w1.drew.cell? ⟨w.heap.size, 0, none⟩ = some (.int .i64 p.1.1) := (HBX1.out.cell 0).trans rfl
      have e1 : w1.drew.cell? ⟨w.heap.size, 1, none⟩ = some (.int .u64 p.1.2) := (HBX1.out.cell 1).trans rfl
      have c0 : w1.drew.cell? ⟨c, 0, none⟩ = some (.slice A xs.length cc) := HR.out.c0
      obtain ⟨i0, hi0, hz0', hz1, hz2⟩ := info_parts infoU
      have z0 : w1.drew.frozen? ⟨c, 0, none⟩ = false := HR.out.blk.frozen 0
      replace HR := Lib.hid (show RU w1.drew c B (.slice A xs.length cc) xs from HR.out.drewN 1)
      replace HB1 := Lib.hid (show Below w.heap.size w w1.drew from HB1.out.drew)
      replace HBX1 := Lib.hid (show Blk w1.drew w.heap.size 31 #[.int .i64 p.1.1, .int .u64 p.1.2] from HBX1.out)
      have SK := Lib.hid (show ∀ w', Below w1.drew.heap.size w1.drew w' → w'.cell? ⟨c, 0, none⟩ = some (.slice A xs.length cc) ∧ w'.frozen? ⟨c, 0, none⟩ = false ∧ w'.cell? ⟨w.heap.size, 0, none⟩ = some (.int .i64 p.1.1) ∧ w'.cell? ⟨w.heap.size, 1, none⟩ = some (.int .u64 p.1.2) from fun w' hb => ⟨(HR.out.below hb).c0, (HR.out.below hb).blk.frozen 0, ((HBX1.out.below hb HBX1.out.lt).cell 0).trans rfl, ((HBX1.out.below hb HBX1.out.lt).cell 1).trans rfl⟩)
      have hgb : w.heap.size < w1.drew.heap.size := HBX1.out.lt
      go_upto_region 5 with fail
      refine beginZ (z := 12) (S := (fun w' => w'.cell? ⟨c, 0, none⟩ = some (.slice A xs.length cc) ∧ w'.frozen? ⟨c, 0, none⟩ = false ∧ w'.cell? ⟨w.heap.size, 0, none⟩ = some (.int .i64 p.1.1) ∧ w'.cell? ⟨w.heap.size, 1, none⟩ = some (.int .u64 p.1.2))) (by kernel_rfl) ?_ (fun hHeld => ?_)
      · exact ⟨c0, z0, e0, e1⟩
      clear c0 z0 e0 e1
      generalize w1.drew = w2 at *
      ((refine takeYZ 0 (by kernel_rfl) (v := ?_) rfl (by kernel_rfl) (by kernel_rfl) (by kernel_rfl) (fun _ _ _ h => h) (by rfl) (by assumption) ?_ ?_; rotate_left; · (intro w hSw; (try dsimp only at hSw); go_simp; (first | done | with_reducible rfl))))
      (try simp only [Act.put, List.setIfInBounds_toArray, List.set_cons_zero, List.set_cons_succ])
      ((refine takeYZ 1 (by kernel_rfl) (v := ?_) rfl (by kernel_rfl) (by kernel_rfl) (by kernel_rfl) (fun _ _ _ h => h) (by rfl) (by assumption) ?_ ?_; rotate_left; · (intro w hSw; (try dsimp only at hSw); go_simp; (first | done | with_reducible rfl))))
      (try simp only [Act.put, List.setIfInBounds_toArray, List.set_cons_zero, List.set_cons_succ])
      ((refine takeYZ 2 (by kernel_rfl) (v := ?_) rfl (by kernel_rfl) (by kernel_rfl) (by kernel_rfl) (fun _ _ _ h => h) (by rfl) (by assumption) ?_ ?_; rotate_left; · (intro w hSw; (try dsimp only at hSw); go_simp; (first | done | with_reducible rfl))))
      (try simp only [Act.put, List.setIfInBounds_toArray, List.set_cons_zero, List.set_cons_succ])
      ((refine takeYZ 3 (by kernel_rfl) (v := ?_) rfl (by kernel_rfl) (by kernel_rfl) (by kernel_rfl) (fun _ _ _ h => h) (by rfl) (by assumption) ?_ ?_; rotate_left; · (intro w hSw; (try dsimp only at hSw); go_simp; (first | done | with_reducible rfl))))
      (try simp only [Act.put, List.setIfInBounds_toArray, List.set_cons_zero, List.set_cons_succ])
      ((refine takeYZ 4 (by kernel_rfl) (v := ?_) rfl (by kernel_rfl) (by kernel_rfl) (by kernel_rfl) (fun _ _ _ h => h) (by rfl) (by assumption) ?_ ?_; rotate_left; · (intro w hSw; (try dsimp only at hSw); go_simp; (first | done | with_reducible rfl))))
      (try simp only [Act.put, List.setIfInBounds_toArray, List.set_cons_zero, List.set_cons_succ])
      ((refine takeYZ 5 (by kernel_rfl) (v := ?_) rfl (by kernel_rfl) (by kernel_rfl) (by kernel_rfl) (fun _ _ _ h => h) (by rfl) (by assumption) ?_ ?_; rotate_left; · (intro w hSw; (try dsimp only at hSw); go_simp; (first | done | with_reducible rfl))))
      (try simp only [Act.put, List.setIfInBounds_toArray, List.set_cons_zero, List.set_cons_succ])
      ((refine takeYZ 6 (by kernel_rfl) (v := ?_) rfl (by kernel_rfl) (by kernel_rfl) (by kernel_rfl) (fun _ _ _ h => h) (by rfl) (by assumption) ?_ ?_; rotate_left; · (intro w hSw; (try dsimp only at hSw); go_simp; (first | done | with_reducible rfl))))
      (try simp only [Act.put, List.setIfInBounds_toArray, List.set_cons_zero, List.set_cons_succ])
      ((refine takeYZ 7 (by kernel_rfl) (v := ?_) rfl (by kernel_rfl) (by kernel_rfl) (by kernel_rfl) (fun _ _ _ h => h) (by rfl) (by assumption) ?_ ?_; rotate_left; · (intro w hSw; (try dsimp only at hSw); go_simp; (first | done | with_reducible rfl))))
      (try simp only [Act.put, List.setIfInBounds_toArray, List.set_cons_zero, List.set_cons_succ])
      refine stepZ 8 rfl (by kernel_rfl) (by rfl) (fun K hK => ?_)
      go_simp
      (refine hK.out _ _ ?_ (fun hHeld => ?_))
      · exact SK.out _ ((Below.refl _ _).alloc (Nat.le_refl _) _)
      clear hK K
      have hown := HR.out.own.alloc (.cells #[.int .i64 f, .int .i64 p.1.1, .int .u64 p.1.2] 54)
      have hrd : Reads (w2.alloc (.cells #[.int .i64 f, .int .i64 p.1.1, .int .u64 p.1.2] 54)) (w2.alloc (.cells #[.int .i64 f, .int .i64 p.1.1, .int .u64 p.1.2] 54)).heap.size 3 (some ⟨w2.heap.size, 0, none⟩) 1 (uc (f, p)) := reads_use (x := (f, p)) (Blk.new _ _ _)
      refine stepZ 9 rfl (by kernel_rfl) (by rfl) (fun K hK => ?_)
      (refine wp_append_any _ (.tmp 18) (.tmp 22) _ rfl B 54 i0 _ 3 24 Try.underlying26 hi0 hz0' hz1 hz2 rfl (by omega) _ _ _ rfl hown _ (some ⟨w2.heap.size, 0, none⟩) 1 1 (uc (f, p)) rfl hrd (uc_one _) (by unfold maxLen; omega) (by omega) (by simp; omega) ?_; intro v2 w4 hown2 hg4 hat2)
      obtain ⟨Av, nv, cv, rfl⟩ := own_form2 hown2
      have hb4 := (HR.out.blk.alloc (.cells #[.int .i64 f, .int .i64 p.1.1, .int .u64 p.1.2] 54)).grown hg4 (fun e => by have := (own_lt HR.out.own e.symm).1; have := HR.out.lt; omega)
      have hx4 := (HBX1.out.alloc (.cells #[.int .i64 f, .int .i64 p.1.1, .int .u64 p.1.2] 54)).grown hg4 (fun e => by have := (own_lt HR0.out e.symm).2; omega)
      (refine hK.out _ _ ?_ (fun hHeld => ?_))
      · exact ⟨(hb4.cell 0).trans rfl, hb4.frozen 0, (hx4.cell 0).trans rfl, (hx4.cell 1).trans rfl⟩
      clear hK K
      refine stepZ 10 rfl (by kernel_rfl) (by rfl) (fun K hK => ?_)
      go_simp
      refine hK.out _ _ hHeld (fun hHeld => ?_)
      clear hK K
      ((refine takeYZ 11 (by kernel_rfl) (v := ?_) rfl (by kernel_rfl) (by kernel_rfl) (by kernel_rfl) (fun _ _ _ h => h) (by rfl) (by assumption) ?_ ?_; rotate_left; · (intro w hSw; (try dsimp only at hSw); go_simp; (first | done | with_reducible rfl))))
      (try simp only [Act.put, List.setIfInBounds_toArray, List.set_cons_zero, List.set_cons_succ])
      refine endZ rfl (by kernel_rfl) (by kernel_rfl) (by rfl) (fun K hK => ?_)
      obtain ⟨hq1, hq2, _, _⟩ := hHeld
      go_simp
      refine hK.out _ _ ?_
      clear hK K
      go_wp2
      go_ret
      have ho4 : Only (Rs c (.slice A xs.length cc)) w w4 := (only_fresh HB1.out).trans (((Only.refl _ w2).alloc _).grown hg4 (fun g e => .inl (.inr e)))
      have ho5 := ho4.setCell (p := ⟨c, 0, none⟩) (.inl (.inl rfl)) (.slice Av nv cv)
      refine ⟨rfl, .slice Av nv cv, ⟨hb4.set_ 0 _, ?_, HR.out.lt⟩, ho5, fun g hg => ?_⟩
      · have h9 := own_only hown2 ((Only.refl (fun j => j = c) w4).setCell (p := ⟨c, 0, none⟩) (.inl rfl) (.slice Av nv cv)) (fun k e => by subst e; exact HR.out.lt)
        show World.ownsRow _ _ _ _ _ _ _
        rw [List.length_append, List.flatMap_append]
        exact h9
      · rcases hat2 with e | e
        · rw [e] at hg; exact .inl hg
        · rw [e] at hg; injection hg with hg; right; simp at hg; omega
    · rw [if_pos rfl, if_pos rfl]
      have HU := Lib.hid hu
      clear hu
      go_enter Try.func8, Try.ntmps8
      go_wp2_with fail
      refine C.out.mono ?_; rintro e w1 ⟨z, rfl, hz, hb1⟩
      obtain ⟨k, rfl, hk⟩ := hz.yes HS.out HU.out
      have g1 : decide ((k : Int) ≥ 0) = true := by simp
      have HB1 := Lib.hid (HB.out.trans (hb1.mono HB.out.size))
      have HT := Lib.hid (RuTo.same HH.out HB1.out)
      clear hz hb1 hk e0 e1 C HB HB1 HBX
      go_wp2
      go_ret
      exact ⟨by simp, HT.out⟩
end Go.Proofs.Ytdnfjpelhiniaaa
