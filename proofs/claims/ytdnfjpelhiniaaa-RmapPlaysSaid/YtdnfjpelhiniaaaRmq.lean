/- The document's own answer for package rmap: Drop. -/
import Derived.Test.YtdnfjpelhiniaaaRmp
import Derived.IntWalk
namespace Go.Proofs.Ytdnfjpelhiniaaa
open Go.RowKit Mf

theorem Reads.takeS {w : World} {B size n : Nat} {A : Option Addr} {xs : List Value} (h : Reads w B size A n xs) {k : Nat} (hk : k ≤ n) : Reads w B size A k (xs.take (k * size)) := by
  have hm : k * size ≤ n * size := Nat.mul_le_mul_right size hk
  refine ⟨by rw [List.length_take, h.1, Nat.min_eq_left hm], fun h0 => ?_⟩
  obtain ⟨ad, e, hb, hc⟩ := h.2 (by omega)
  refine ⟨ad, e, hb, fun j u hu => hc j u ?_⟩
  rw [List.getElem?_take] at hu
  split at hu
  · exact hu
  · cases hu
section
variable {α : Type} {f : α → List Value} {s : Nat}
theorem flat_take (hf : ∀ x, (f x).length = s) : ∀ (k : Nat) (xs : List α), (xs.flatMap f).take (k * s) = (xs.take k).flatMap f
  | 0, xs => by simp
  | k + 1, [] => by simp
  | k + 1, a :: l => by
    have h1 : (k + 1) * s - s = k * s := by rw [Nat.succ_mul]; omega
    rw [List.flatMap_cons, List.take_append, List.take_of_length_le (by rw [hf, Nat.succ_mul]; omega), hf, h1, flat_take hf k l, List.take_succ_cons, List.flatMap_cons]
theorem flat_drop (hf : ∀ x, (f x).length = s) : ∀ (k : Nat) (xs : List α), (xs.flatMap f).drop (k * s) = (xs.drop k).flatMap f
  | 0, xs => by simp
  | k + 1, [] => by simp
  | k + 1, a :: l => by
    have h1 : (k + 1) * s - s = k * s := by rw [Nat.succ_mul]; omega
    rw [List.flatMap_cons, List.drop_append, List.drop_of_length_le (by rw [hf, Nat.succ_mul]; omega), hf, h1, flat_drop hf k l, List.drop_succ_cons, List.nil_append]
end
theorem flat_one {xs : List Us} : ∀ u ∈ xs.flatMap uc, u.oneCell' = true := fun u hu => by
  obtain ⟨x, _, hx⟩ := List.mem_flatMap.1 hu
  exact uc_one x u hx
theorem own_slice4 {w : World} {B : Nat} {v : Value} {xs : List Us} (h : URow w B v xs) : ∃ A cc, v = .slice A xs.length cc ∧ xs.length ≤ cc ∧ Reads w w.heap.size 3 A xs.length (xs.flatMap uc) := by
  rcases h.2 with ⟨rfl, h0⟩ | ⟨g, cap, cur, rfl, _, _, hc, _⟩
  · have e : xs = [] := List.eq_nil_of_length_eq_zero h0
    subst e
    exact ⟨none, 0, rfl, Nat.le_refl _, Reads.none_⟩
  · exact ⟨_, _, rfl, hc, Reads.of_own h⟩

theorem dropU_no {u : Int → Plc → Bool} {f : Int} {p : Plc} (hu : u f p = false) : dropU u f p = u := by
  funext k q
  unfold dropU
  by_cases e : k = f ∧ q = p
  · rw [if_pos e, e.1, e.2, hu]
  · rw [if_neg e]
theorem USim.drop {xs : List Us} {u : Int → Plc → Bool} (h : USim xs u) {k : Nat} {f : Int} {p : Plc} (hk : xs[k]? = some (f, p)) : USim (xs.take k ++ xs.drop (k + 1)) (dropU u f p) := by
  obtain ⟨hkl, hke⟩ := List.getElem?_eq_some_iff.1 hk
  have hsp : xs = xs.take k ++ (f, p) :: xs.drop (k + 1) := by
    have e := List.getElem_cons_drop (h := hkl)
    rw [hke] at e
    rw [e, List.take_append_drop]
  have hpw := h.1
  rw [hsp, List.pairwise_append, List.pairwise_cons] at hpw
  obtain ⟨h1, ⟨h2, h3⟩, h4⟩ := hpw
  refine ⟨?_, fun j q => ?_⟩
  · rw [List.pairwise_append]
    exact ⟨h1, h3, fun a ha b hb => h4 a ha b (List.mem_cons_of_mem _ hb)⟩
  · have e : (j, q) ∈ xs ↔ (j, q) ∈ xs.take k ∨ (j, q) = (f, p) ∨ (j, q) ∈ xs.drop (k + 1) := by
      rw [← List.mem_cons, ← List.mem_append, ← hsp]
    have hm := h.2 j q
    rw [e] at hm
    show _ ↔ (if j = f ∧ q = p then false else u j q) = true
    by_cases e2 : j = f ∧ q = p
    · rw [if_pos e2, e2.1, e2.2, List.mem_append]
      constructor
      · rintro (h5 | h5)
        · exact absurd rfl (h4 _ h5 _ (List.mem_cons_self ..))
        · exact absurd rfl (h2 _ h5)
      · intro h5; cases h5
    · rw [if_neg e2, ← hm, List.mem_append]
      constructor
      · rintro (h5 | h5)
        · exact .inl h5
        · exact .inr (.inr h5)
      · rintro (h5 | h5 | h5)
        · exact .inl h5
        · injection h5 with h5 h6; exact absurd ⟨h5, h6⟩ e2
        · exact .inr h5

set_option maxRecDepth 100000 in
set_option maxHeartbeats 8000000 in
theorem rudrop {w : World} {c B : Nat} {v : Value} {xs : List Us} {u : Int → Plc → Bool} (h : RU w c B v xs) (hs : USim xs u) (hn : xs.length ≤ 900) (hB : B ≤ w.heap.size) (f : Int) (p : Plc) :
    Calls Try.prog 10 #[.pointer (some ⟨c, 0, none⟩), .int .i64 f, .agg #[.int .i64 p.1.1, .int .u64 p.1.2]] w fun e w' => e = .returned (.int .i64 (dropE u f p)) ∧ ∃ ys, USim ys (dropU u f p) ∧ ys.length ≤ xs.length ∧ RuTo w w' c B v ys := by
  have hb := (Below.refl w.heap.size w).alloc (Nat.le_refl _) (.cells #[.int .i64 p.1.1, .int .u64 p.1.2] 31)
  unfold dropE
  have HB := Lib.hid hb
  have HH := Lib.hid h
  have HS := Lib.hid hs
  have C := Lib.hid (ruat (h.below hb) (by omega) f p)
  have HBX := Lib.hid (Blk.new w 31 #[.int .i64 p.1.1, .int .u64 p.1.2])
  have e0 := (HBX.out.cell 0).trans rfl
  have e1 := (HBX.out.cell 1).trans rfl
  clear h hb hs
  cases hu : u f p
  · rw [if_neg (by decide), dropU_no hu]
    have HU := Lib.hid hu
    clear hu
    go_enter Try.func10, Try.ntmps10
    go_wp2_with fail
    refine C.out.mono ?_; rintro e w1 ⟨z, rfl, hz, hb1⟩
    obtain rfl := hz.no HS.out HU.out
    have HT := Lib.hid (RuTo.same HH.out (HB.out.trans (hb1.mono HB.out.size)))
    clear hz hb1 e0 e1 C HB HBX
    go_wp2
    go_ret
    exact ⟨rfl, xs, HS.out, Nat.le_refl _, HT.out⟩
  · rw [if_pos rfl]
    have HU := Lib.hid hu
    clear hu
    go_enter Try.func10, Try.ntmps10
    go_wp2_with fail
    refine C.out.mono ?_; rintro e w1 ⟨z, rfl, hz, hb1⟩
    obtain ⟨k, rfl, hk⟩ := hz.yes HS.out HU.out
    have hkn := (List.getElem?_eq_some_iff.1 hk).1
    have g1 : decide ((k : Int) < 0) = false := by simp
    have HK := Lib.hid hk
    have HB1 := Lib.hid (HB.out.trans (hb1.mono HB.out.size))
    have HR := Lib.hid (HH.out.below HB1.out)
    clear hz hb1 e0 e1 C HB HBX hk
    obtain ⟨A, cc, rfl, hcc, hrd⟩ := own_slice4 HR.out.own
    obtain ⟨n, hnn⟩ : ∃ n, xs.length = n := ⟨_, rfl⟩
    have c0 : w1.drew.cell? ⟨c, 0, none⟩ = some (.slice A xs.length cc) := HR.out.c0
    have z0 : w1.drew.frozen? ⟨c, 0, none⟩ = false := HR.out.blk.frozen 0
    have HN := Lib.hid hnn
    replace HR := Lib.hid (show RU w1.drew c B (.slice A xs.length cc) xs from HR.out.drewN 1)
    rw [hnn] at hn hkn hcc hrd c0 HR
    clear hnn
    obtain ⟨A2, hA2⟩ : ∃ A2, (if cc = k + 1 then A else A.map (·.add ((k + 1) * 3))) = A2 := ⟨_, rfl⟩
    obtain ⟨i0, hi0, hz0', hz1, hz2⟩ := info_parts infoU
    have hs1 : ∀ w' : World, (Instr.slice 26 (.slice A n cc) none (some (.int .i64 (k : Int))) none).run Try.prog w' = .ok (.slice A k cc) w' := fun w' => run_cut_lo w' Try.underlying26 hi0 A n cc k (by omega)
    have hs2 : ∀ w' : World, (Instr.slice 26 (.slice A n cc) (some (.int .i64 (IntKind.i64.wrap ((k : Int) + 1)))) none none).run Try.prog w' = .ok (.slice A2 (n - (k + 1)) (cc - (k + 1))) w' := fun w' => by
      rw [← hA2, show IntKind.i64.wrap ((k : Int) + 1) = ((k + 1 : Nat) : Int) from by rw [IntWalk.i64_in _ (by omega)]; omega]
      exact run_cut_hi w' Try.underlying26 hi0 3 hz1 A n cc (k + 1) hkn
    have HRD := Lib.hid (show Reads w1.drew w1.drew.heap.size 3 A n (xs.flatMap uc) from hrd)
    have HRD1 := Lib.hid (show Reads w1.drew w1.drew.heap.size 3 A k ((xs.take k).flatMap uc) from by rw [← flat_take uc_len]; exact HRD.out.takeS (by omega))
    have HRD2 := Lib.hid (show Reads w1.drew w1.drew.heap.size 3 A2 (n - (k + 1)) ((xs.drop (k + 1)).flatMap uc) from by rw [← hA2, ← flat_drop uc_len]; exact HRD.out.cut hkn hcc)
    have HB2 := Lib.hid (show Below w.heap.size w w1.drew from HB1.out.drew)
    have SK := Lib.hid (show ∀ w', Below w1.drew.heap.size w1.drew w' → w'.cell? ⟨c, 0, none⟩ = some (.slice A n cc) ∧ w'.frozen? ⟨c, 0, none⟩ = false from fun w' hb => ⟨(HR.out.below hb).c0, (HR.out.below hb).blk.frozen 0⟩)
    clear hA2 hcc hrd HRD HB1
    go_upto_region 4 with fail
    refine beginZ (z := 19) (S := (fun w' => w'.cell? ⟨c, 0, none⟩ = some (.slice A n cc) ∧ w'.frozen? ⟨c, 0, none⟩ = false)) (by kernel_rfl) ?_ (fun hHeld => ?_)
    · exact ⟨c0, z0⟩
    clear c0 z0
    generalize w1.drew = w0 at *
    obtain ⟨wc, hwc, HBL, hHeld⟩ : ∃ wc, w0 = wc ∧ Hid (Below w0.heap.size w0 wc) ∧ (wc.cell? ⟨c, 0, none⟩ = some (.slice A n cc) ∧ wc.frozen? ⟨c, 0, none⟩ = false) := ⟨w0, rfl, Lib.hid (Below.refl _ _), hHeld⟩
    rw [hwc]
    clear hwc
    ((refine takeYZ 0 (by kernel_rfl) (v := ?_) rfl (by kernel_rfl) (by kernel_rfl) (by kernel_rfl) (fun _ _ _ h => h) (by rfl) (by assumption) ?_ ?_; rotate_left; · (intro w hSw; (try dsimp only at hSw); go_simp; (first | done | with_reducible rfl))))
    (try simp only [Act.put, List.setIfInBounds_toArray, List.set_cons_zero, List.set_cons_succ])
    ((refine takeYZ 2 (by kernel_rfl) (v := ?_) rfl (by kernel_rfl) (by kernel_rfl) (by kernel_rfl) (fun _ _ _ h => h) (by rfl) (by assumption) ?_ ?_; rotate_left; · (intro w hSw; (try dsimp only at hSw); go_simp; (first | done | with_reducible rfl))))
    (try simp only [Act.put, List.setIfInBounds_toArray, List.set_cons_zero, List.set_cons_succ])
    ((refine takeYZ 3 (by kernel_rfl) (v := ?_) rfl (by kernel_rfl) (by kernel_rfl) (by kernel_rfl) (fun _ _ _ h => h) (by rfl) (by assumption) ?_ ?_; rotate_left; · (intro w hSw; (try dsimp only at hSw); go_simp; (first | done | with_reducible rfl))))
    (try simp only [Act.put, List.setIfInBounds_toArray, List.set_cons_zero, List.set_cons_succ])
    ((refine takeYZ 4 (by kernel_rfl) (v := ?_) rfl (by kernel_rfl) (by kernel_rfl) (by kernel_rfl) (fun _ _ _ h => h) (by rfl) (by assumption) ?_ ?_; rotate_left; · (intro w hSw; (try dsimp only at hSw); go_simp; (first | done | with_reducible rfl))))
    (try simp only [Act.put, List.setIfInBounds_toArray, List.set_cons_zero, List.set_cons_succ])
    ((refine takeYZ 5 (by kernel_rfl) (v := ?_) rfl (by kernel_rfl) (by kernel_rfl) (by kernel_rfl) (fun _ _ _ h => h) (by rfl) (by assumption) ?_ ?_; rotate_left; · (intro w hSw; (try dsimp only at hSw); go_simp; (first | done | with_reducible rfl))))
    (try simp only [Act.put, List.setIfInBounds_toArray, List.set_cons_zero, List.set_cons_succ])
    ((refine takeYZ 6 (by kernel_rfl) (v := ?_) rfl (by kernel_rfl) (by kernel_rfl) (by kernel_rfl) (fun _ _ _ h => h) (by rfl) (by assumption) ?_ ?_; rotate_left; · (intro w hSw; (try dsimp only at hSw); go_simp; (first | done | with_reducible rfl))))
    (try simp only [Act.put, List.setIfInBounds_toArray, List.set_cons_zero, List.set_cons_succ])
    ((refine takeYZ 7 (by kernel_rfl) (v := ?_) rfl (by kernel_rfl) (by kernel_rfl) (by kernel_rfl) (fun _ _ _ h => h) (by rfl) (by assumption) ?_ ?_; rotate_left; · (intro w hSw; (try dsimp only at hSw); go_simp; (first | done | with_reducible rfl))))
    (try simp only [Act.put, List.setIfInBounds_toArray, List.set_cons_zero, List.set_cons_succ])
    ((refine takeYZ 9 (by kernel_rfl) (v := ?_) rfl (by kernel_rfl) (by kernel_rfl) (by kernel_rfl) (fun _ _ _ h => h) (by rfl) (by assumption) ?_ ?_; rotate_left; · (intro w hSw; (try dsimp only at hSw); go_simp; (first | done | with_reducible rfl))))
    (try simp only [Act.put, List.setIfInBounds_toArray, List.set_cons_zero, List.set_cons_succ])
    ((refine takeYZ 10 (by kernel_rfl) (v := ?_) rfl (by kernel_rfl) (by kernel_rfl) (by kernel_rfl) (fun _ _ _ h => h) (by rfl) (by assumption) ?_ ?_; rotate_left; · (intro w hSw; (try dsimp only at hSw); go_simp; (first | done | with_reducible rfl))))
    (try simp only [Act.put, List.setIfInBounds_toArray, List.set_cons_zero, List.set_cons_succ])
    ((refine takeYZ 11 (by kernel_rfl) (v := ?_) rfl (by kernel_rfl) (by kernel_rfl) (by kernel_rfl) (fun _ _ _ h => h) (by rfl) (by assumption) ?_ ?_; rotate_left; · (intro w hSw; (try dsimp only at hSw); go_simp; (first | done | with_reducible rfl))))
    (try simp only [Act.put, List.setIfInBounds_toArray, List.set_cons_zero, List.set_cons_succ])
    ((refine takeYZ 12 (by kernel_rfl) (v := ?_) rfl (by kernel_rfl) (by kernel_rfl) (by kernel_rfl) (fun _ _ _ h => h) (by rfl) (by assumption) ?_ ?_; rotate_left; · (intro w hSw; (try dsimp only at hSw); go_simp; (first | done | with_reducible rfl))))
    (try simp only [Act.put, List.setIfInBounds_toArray, List.set_cons_zero, List.set_cons_succ])
    ((refine takeYZ 13 (by kernel_rfl) (v := ?_) rfl (by kernel_rfl) (by kernel_rfl) (by kernel_rfl) (fun _ _ _ h => h) (by rfl) (by assumption) ?_ ?_; rotate_left; · (intro w hSw; (try dsimp only at hSw); go_simp; (first | done | with_reducible rfl))))
    (try simp only [Act.put, List.setIfInBounds_toArray, List.set_cons_zero, List.set_cons_succ])
    ((refine takeYZ 14 (by kernel_rfl) (v := ?_) rfl (by kernel_rfl) (by kernel_rfl) (by kernel_rfl) (fun _ _ _ h => h) (by rfl) (by assumption) ?_ ?_; rotate_left; · (intro w hSw; (try dsimp only at hSw); go_simp; (first | done | with_reducible rfl))))
    (try simp only [Act.put, List.setIfInBounds_toArray, List.set_cons_zero, List.set_cons_succ])
    ((refine takeYZ 15 (by kernel_rfl) (v := ?_) rfl (by kernel_rfl) (by kernel_rfl) (by kernel_rfl) (fun _ _ _ h => h) (by rfl) (by assumption) ?_ ?_; rotate_left; · (intro w hSw; (try dsimp only at hSw); go_simp; (first | done | with_reducible rfl))))
    (try simp only [Act.put, List.setIfInBounds_toArray, List.set_cons_zero, List.set_cons_succ])
    refine stepZ 1 rfl (by kernel_rfl) (by rfl) (fun K hK => ?_)
    go_simp
    (refine hK.out _ _ ?_ (fun hHeld => ?_))
    · exact SK.out _ (HBL.out.alloc HBL.out.size _)
    clear hK K
    have HA := Lib.hid (show (wc.alloc (.cells #[] 54)).ownsRow w0.heap.size 54 3 (.slice (some ⟨wc.heap.size, 0, none⟩) 0 0) 0 [] from World.ownsRow_lit wc #[] 0 HBL.out.size (by unfold maxLen; omega) rfl)
    replace HBL := Lib.hid (HBL.out.alloc HBL.out.size (.cells #[] 54))
    generalize hwn : wc.alloc (.cells #[] 54) = wn at *
    clear hwn
    generalize hga : wc.heap.size = ga at *
    clear hga
    obtain ⟨wc, rfl⟩ : ∃ x : World, x = wn := ⟨_, rfl⟩
    refine stepZ 8 rfl (by kernel_rfl) (by rfl) (fun K hK => ?_)
    (refine wp_append_any _ (.tmp 15) (.tmp 21) _ rfl w0.heap.size 54 i0 _ 3 24 Try.underlying26 hi0 hz0' hz1 hz2 rfl (by omega) _ 0 _ rfl HA.out _ A k _ ((xs.take k).flatMap uc) rfl (HRD1.out.below HBL.out) flat_one (by unfold maxLen; omega) (by omega) HBL.out.size ?_; intro v2 w3 hown2 hg2 hat2)
    (refine hK.out _ _ ?_ (fun hHeld => ?_))
    · exact SK.out _ (HBL.out.grown hg2 HBL.out.size (fun g hg => (HA.out.lt g hg).1))
    clear hK K
    replace HBL := Lib.hid (HBL.out.grown hg2 HBL.out.size (fun g hg => (HA.out.lt g hg).1))
    replace HA := Lib.hid hown2
    clear hown2 hg2 hat2
    obtain ⟨va, rfl⟩ : ∃ x : Value, x = v2 := ⟨_, rfl⟩
    obtain ⟨wc, rfl⟩ : ∃ x : World, x = w3 := ⟨_, rfl⟩
    refine stepZ 16 rfl (by kernel_rfl) (by rfl) (fun K hK => ?_)
    (refine wp_append_any _ (.tmp 22) (.tmp 29) _ rfl w0.heap.size 54 i0 _ 3 24 Try.underlying26 hi0 hz0' hz1 hz2 rfl (by omega) _ (0 + k) _ rfl HA.out _ A2 (n - (k + 1)) _ ((xs.drop (k + 1)).flatMap uc) rfl (HRD2.out.below HBL.out) flat_one (by unfold maxLen; omega) (by omega) HBL.out.size ?_; intro v2 w3 hown2 hg2 hat2)
    (refine hK.out _ _ ?_ (fun hHeld => ?_))
    · exact SK.out _ (HBL.out.grown hg2 HBL.out.size (fun g hg => (HA.out.lt g hg).1))
    clear hK K
    replace HBL := Lib.hid (HBL.out.grown hg2 HBL.out.size (fun g hg => (HA.out.lt g hg).1))
    replace HA := Lib.hid hown2
    clear hown2 hg2 hat2
    obtain ⟨va, rfl⟩ : ∃ x : Value, x = v2 := ⟨_, rfl⟩
    obtain ⟨wc, rfl⟩ : ∃ x : World, x = w3 := ⟨_, rfl⟩
    refine stepZ 17 rfl (by kernel_rfl) (by rfl) (fun K hK => ?_)
    go_simp
    refine hK.out _ _ hHeld (fun hHeld => ?_)
    clear hK K
    ((refine takeYZ 18 (by kernel_rfl) (v := ?_) rfl (by kernel_rfl) (by kernel_rfl) (by kernel_rfl) (fun _ _ _ h => h) (by rfl) (by assumption) ?_ ?_; rotate_left; · (intro w hSw; (try dsimp only at hSw); go_simp; (first | done | with_reducible rfl))))
    (try simp only [Act.put, List.setIfInBounds_toArray, List.set_cons_zero, List.set_cons_succ])
    refine endZ rfl (by kernel_rfl) (by kernel_rfl) (by rfl) (fun K hK => ?_)
    obtain ⟨hq1, hq2⟩ := hHeld
    obtain ⟨Av, nv, cv, rfl⟩ := own_form2 HA.out
    go_simp
    refine hK.out _ _ ?_
    clear hK K hs1 hs2 hq1 hq2
    go_wp2
    go_ret
    have hlen : (xs.take k ++ xs.drop (k + 1)).length = 0 + k + (n - (k + 1)) := by rw [List.length_append, List.length_take, List.length_drop]; have := HN.out; omega
    have hA9 := HA.out
    rw [List.nil_append, ← List.flatMap_append] at hA9
    have ho2 : Only (Rs c (.slice A n cc)) w (wc.setCell ⟨c, 0, none⟩ (.slice Av nv cv)) := ((only_fresh HB2.out).trans (only_fresh HBL.out)).setCell (p := ⟨c, 0, none⟩) (.inl (.inl rfl)) _
    rw [← HN.out] at ho2
    refine ⟨rfl, _, HS.out.drop HK.out, by have := HN.out; omega, .slice Av nv cv, ⟨(HR.out.below HBL.out).blk.set_ 0 _, ?_, HR.out.lt⟩, ho2, fun g hg => .inr ?_⟩
    · have h9 := own_only hA9 ((Only.refl (fun j => j = c) wc).setCell (p := ⟨c, 0, none⟩) (.inl rfl) (.slice Av nv cv)) (fun j e => by subst e; exact HR.out.blk.lt)
      show World.ownsRow _ _ _ _ _ _ _
      rw [hlen]
      exact ownsRow_mono h9 (by have := HB2.out.size; omega)
    · have := (HA.out.lt g hg).1
      have := HB2.out.size
      omega
end Go.Proofs.Ytdnfjpelhiniaaa
