/- The document's own answer for package index: Drop. -/
import Derived.Test.YtkpngkdkkcadfaaIrc
namespace Go.Proofs.Ytkpngkdkkcadfaa
open Go.RowKit Mk

def RDropIs (w : World) (W c : Nat) (S : Ki → Option Cx) (G : Int → Nat → Nat) (N : Nat → Prop) (k : Ki) (e : Ending) (w' : World) : Prop :=
  (S k = none ∧ e = .returned (.int .i64 23) ∧ Below w.heap.size w w') ∨
  ((S k).isSome = true ∧ e = .returned (.int .i64 0) ∧ ∃ ys, XSim ys (delS S k) ∧ RxTo w w' W c ys G N)
set_option maxRecDepth 100000 in
set_option maxHeartbeats 8000000 in
theorem rxdrop {w : World} {W c : Nat} {vF v : Value} {xs : List Is} {S : Ki → Option Cx} {G : Int → Nat → Nat} {N : Nat → Prop} (h : RX w W c vF v xs G N) (hs : XSim xs S) (hd : D12 S) (f : Int) (hf : (Lit.int .i64 f).wf = true) :
    Calls Try.prog 15 #[.pointer (some ⟨c, 0, none⟩), .int .i64 f] w (RDropIs w W c S G N ⟨f, hf⟩) := by
  have hn := hs.len hd
  have C := Lib.hid (rxat h (by omega) f)
  have HH := Lib.hid h
  have HCW := Lib.hid h.blk.lt
  have HS := Lib.hid hs
  clear h hs hd
  go_enter Try.func15, Try.ntmps15
  go_wp2_with fail
  refine C.out.mono ?_; rintro e w1 ⟨k, r, rfl, hat, q, rfl⟩
  have hr := hat.isSome HS.out hf
  have HAT := Lib.hid hat
  cases r with
  | false =>
    have hno : S ⟨f, hf⟩ = none := by
      cases hS : S ⟨f, hf⟩ with
      | none => rfl
      | some z => rw [hS] at hr; cases hr
    have HT := Lib.hid (show RDropIs w W c S G N ⟨f, hf⟩ (.returned (.int .i64 23)) (w.drewN q) from .inl ⟨hno, rfl, below_drewN (Below.refl _ _) q⟩)
    clear hr hat hno C
    go_wp2
    go_ret
    exact HT.out
  | true =>
    have HSI := Lib.hid (HS.out.del hf hat)
    have HYS := Lib.hid hr.symm
    obtain ⟨xk, hxk, _⟩ := hat.is.1 rfl
    have hkn0 := (List.getElem?_eq_some_iff.1 hxk).1
    have HB1 := Lib.hid (below_drewN (Below.refl w.heap.size w) q)
    have HR := Lib.hid (HH.out.drewN q)
    obtain ⟨w1, hw1⟩ : ∃ x, w.drewN q = x := ⟨_, rfl⟩
    rw [hw1] at HR HB1 ⊢
    clear hw1 HH hr hat hxk C
    obtain ⟨A, cc, rfl, hcc, hrd⟩ := lrow_slice HR.out.own
    obtain ⟨n, hnn⟩ : ∃ n, xs.length = n := ⟨_, rfl⟩
    have c0 : w1.drew.cell? ⟨c, 1, none⟩ = some (.slice A xs.length cc) := HR.out.c1
    have z0 : w1.drew.frozen? ⟨c, 1, none⟩ = false := HR.out.blk.frozen 1
    have HN := Lib.hid hnn
    replace HR := Lib.hid (show RX w1.drew W c vF (.slice A xs.length cc) xs G N from HR.out.drewN 1)
    rw [hnn] at hn hkn0 hcc hrd c0 HR
    have hkn := hkn0
    clear hnn hkn0
    obtain ⟨A2, hA2⟩ : ∃ A2, (if cc = k + 1 then A else A.map (·.add ((k + 1) * 2))) = A2 := ⟨_, rfl⟩
    obtain ⟨i0, hi0, hz0', hz1, hz2⟩ := info_parts infoN
    have hs1 : ∀ w' : World, (Instr.slice 41 (.slice A n cc) none (some (.int .i64 (k : Int))) none).run Try.prog w' = .ok (.slice A k cc) w' := fun w' => run_cut_lo w' Try.underlying41 hi0 A n cc k (by omega)
    have hs2 : ∀ w' : World, (Instr.slice 41 (.slice A n cc) (some (.int .i64 (IntKind.i64.wrap ((k : Int) + 1)))) none none).run Try.prog w' = .ok (.slice A2 (n - (k + 1)) (cc - (k + 1))) w' := fun w' => by
      rw [← hA2, show IntKind.i64.wrap ((k : Int) + 1) = ((k + 1 : Nat) : Int) from by rw [IntWalk.i64_in _ (by omega)]; omega]
      exact run_cut_hi w' Try.underlying41 hi0 2 hz1 A n cc (k + 1) hkn
    have HRD := Lib.hid (show Reads w1.drew w1.drew.heap.size 2 A n (xs.flatMap ic) from hrd)
    have HRD1 := Lib.hid (show Reads w1.drew w1.drew.heap.size 2 A k ((xs.take k).flatMap ic) from by rw [← flat_take ic_len]; exact HRD.out.takeS (by omega))
    have HRD2 := Lib.hid (show Reads w1.drew w1.drew.heap.size 2 A2 (n - (k + 1)) ((xs.drop (k + 1)).flatMap ic) from by rw [← hA2, ← flat_drop ic_len]; exact HRD.out.cut hkn hcc)
    have HB2 := Lib.hid (show Below w.heap.size w w1.drew from HB1.out.drew)
    have SK := Lib.hid (show ∀ w', Below w1.drew.heap.size w1.drew w' → w'.cell? ⟨c, 1, none⟩ = some (.slice A n cc) ∧ w'.frozen? ⟨c, 1, none⟩ = false from fun w' hb => ⟨(HR.out.below hb).c1, (HR.out.below hb).blk.frozen 1⟩)
    clear hA2 hcc hrd HRD HB1
    go_upto_region 4 with fail
    refine beginZ (z := 19) (S := (fun w' => w'.cell? ⟨c, 1, none⟩ = some (.slice A n cc) ∧ w'.frozen? ⟨c, 1, none⟩ = false)) (by kernel_rfl) ?_ (fun hHeld => ?_)
    · exact ⟨c0, z0⟩
    clear c0 z0
    generalize w1.drew = w0 at *
    obtain ⟨wc, hwc, HBL, hHeld⟩ : ∃ wc, w0 = wc ∧ Hid (Below w0.heap.size w0 wc) ∧ (wc.cell? ⟨c, 1, none⟩ = some (.slice A n cc) ∧ wc.frozen? ⟨c, 1, none⟩ = false) := ⟨w0, rfl, Lib.hid (Below.refl _ _), hHeld⟩
    rw [hwc]
    clear hwc
    ((refine takeYZ 0 (by kernel_rfl) (v := ?_) rfl (by kernel_rfl) (by kernel_rfl) (by kernel_rfl) (fun _ _ _ h => h) (by rfl) (by assumption) ?_ ?_; rotate_left; · (intro w hSw; (try dsimp only at hSw); go_simp; (first | done | with_reducible rfl))))
    (try simp only [Act.put, List.setIfInBounds_toArray, List.set_cons_zero, List.set_cons_succ])
    ((refine takeYZ 2 (by kernel_rfl) (v := ?_) rfl (by kernel_rfl) (by kernel_rfl) (by kernel_rfl) (fun _ _ _ h => h) (by rfl) (by assumption) ?_ ?_; rotate_left; · (intro w hSw; (try dsimp only at hSw); go_simp; (first | done | with_reducible rfl))))
    (try simp only [Act.put, List.setIfInBounds_toArray, List.set_cons_zero, List.set_cons_succ])
    ((refine takeYZ 3 (by kernel_rfl) (v := ?_) rfl (by kernel_rfl) (by kernel_rfl) (by kernel_rfl) (fun _ _ _ h => h) (by rfl) (by assumption) ?_ ?_; rotate_left; · (intro w hSw; (try dsimp only at hSw); go_simp; (first | done | with_reducible rfl))))
    (try simp only [Act.put, List.setIfInBounds_toArray, List.set_cons_zero, List.set_cons_succ])
    ((refine takeYZ 4 (by kernel_rfl) (v := ?_) rfl (by kernel_rfl) (by kernel_rfl) (by kernel_rfl) (fun _ _ _ h => h) (by rfl) (by assumption) ?_ ?_; rotate_left; · (intro w hSw; (try dsimp only at hSw); go_simp; (first | done | with_reducible rfl))))
    (try simp only [Act.put, List.setIfInBounds_toArray, List.set_cons_zero, List.set_cons_succ])
    ((refine takeYZ 5 (by kernel_rfl) (v := ?_) rfl (by kernel_rfl) (by kernel_rfl) (by kernel_rfl) (fun _ _ _ h => h) (by rfl) (by assumption) ?_ ?_; rotate_left; · (intro w hSw; (try dsimp only at hSw); go_simp; (first | done | with_reducible rfl))))
    (try simp only [Act.put, List.setIfInBounds_toArray, List.set_cons_zero, List.set_cons_succ])
    ((refine takeYZ 6 (by kernel_rfl) (v := ?_) rfl (by kernel_rfl) (by kernel_rfl) (by kernel_rfl) (fun _ _ _ h => h) (by rfl) (by assumption) ?_ ?_; rotate_left; · (intro w hSw; (try dsimp only at hSw); go_simp; (first | done | with_reducible rfl))))
    (try simp only [Act.put, List.setIfInBounds_toArray, List.set_cons_zero, List.set_cons_succ])
    ((refine takeYZ 7 (by kernel_rfl) (v := ?_) rfl (by kernel_rfl) (by kernel_rfl) (by kernel_rfl) (fun _ _ _ h => h) (by rfl) (by assumption) ?_ ?_; rotate_left; · (intro w hSw; (try dsimp only at hSw); go_simp; (first | done | with_reducible rfl))))
    (try simp only [Act.put, List.setIfInBounds_toArray, List.set_cons_zero, List.set_cons_succ])
    ((refine takeYZ 9 (by kernel_rfl) (v := ?_) rfl (by kernel_rfl) (by kernel_rfl) (by kernel_rfl) (fun _ _ _ h => h) (by rfl) (by assumption) ?_ ?_; rotate_left; · (intro w hSw; (try dsimp only at hSw); go_simp; (first | done | with_reducible rfl))))
    (try simp only [Act.put, List.setIfInBounds_toArray, List.set_cons_zero, List.set_cons_succ])
    ((refine takeYZ 10 (by kernel_rfl) (v := ?_) rfl (by kernel_rfl) (by kernel_rfl) (by kernel_rfl) (fun _ _ _ h => h) (by rfl) (by assumption) ?_ ?_; rotate_left; · (intro w hSw; (try dsimp only at hSw); go_simp; (first | done | with_reducible rfl))))
    (try simp only [Act.put, List.setIfInBounds_toArray, List.set_cons_zero, List.set_cons_succ])
    ((refine takeYZ 11 (by kernel_rfl) (v := ?_) rfl (by kernel_rfl) (by kernel_rfl) (by kernel_rfl) (fun _ _ _ h => h) (by rfl) (by assumption) ?_ ?_; rotate_left; · (intro w hSw; (try dsimp only at hSw); go_simp; (first | done | with_reducible rfl))))
    (try simp only [Act.put, List.setIfInBounds_toArray, List.set_cons_zero, List.set_cons_succ])
    ((refine takeYZ 12 (by kernel_rfl) (v := ?_) rfl (by kernel_rfl) (by kernel_rfl) (by kernel_rfl) (fun _ _ _ h => h) (by rfl) (by assumption) ?_ ?_; rotate_left; · (intro w hSw; (try dsimp only at hSw); go_simp; (first | done | with_reducible rfl))))
    (try simp only [Act.put, List.setIfInBounds_toArray, List.set_cons_zero, List.set_cons_succ])
    ((refine takeYZ 13 (by kernel_rfl) (v := ?_) rfl (by kernel_rfl) (by kernel_rfl) (by kernel_rfl) (fun _ _ _ h => h) (by rfl) (by assumption) ?_ ?_; rotate_left; · (intro w hSw; (try dsimp only at hSw); go_simp; (first | done | with_reducible rfl))))
    (try simp only [Act.put, List.setIfInBounds_toArray, List.set_cons_zero, List.set_cons_succ])
    ((refine takeYZ 14 (by kernel_rfl) (v := ?_) rfl (by kernel_rfl) (by kernel_rfl) (by kernel_rfl) (fun _ _ _ h => h) (by rfl) (by assumption) ?_ ?_; rotate_left; · (intro w hSw; (try dsimp only at hSw); go_simp; (first | done | with_reducible rfl))))
    (try simp only [Act.put, List.setIfInBounds_toArray, List.set_cons_zero, List.set_cons_succ])
    ((refine takeYZ 15 (by kernel_rfl) (v := ?_) rfl (by kernel_rfl) (by kernel_rfl) (by kernel_rfl) (fun _ _ _ h => h) (by rfl) (by assumption) ?_ ?_; rotate_left; · (intro w hSw; (try dsimp only at hSw); go_simp; (first | done | with_reducible rfl))))
    (try simp only [Act.put, List.setIfInBounds_toArray, List.set_cons_zero, List.set_cons_succ])
    refine stepZ 1 rfl (by kernel_rfl) (by rfl) (fun K hK => ?_)
    go_simp
    (refine hK.out _ _ ?_ (fun hHeld => ?_))
    · exact SK.out _ (HBL.out.alloc HBL.out.size _)
    clear hK K
    have HA := Lib.hid (show (wc.alloc (.cells #[] 55)).ownsRow w0.heap.size 55 2 (.slice (some ⟨wc.heap.size, 0, none⟩) 0 0) 0 [] from World.ownsRow_lit wc #[] 0 HBL.out.size (by unfold maxLen; omega) rfl)
    replace HBL := Lib.hid (HBL.out.alloc HBL.out.size (.cells #[] 55))
    generalize hwn : wc.alloc (.cells #[] 55) = wn at *
    clear hwn
    generalize hga : wc.heap.size = ga at *
    clear hga
    obtain ⟨wc, rfl⟩ : ∃ x : World, x = wn := ⟨_, rfl⟩
    refine stepZ 8 rfl (by kernel_rfl) (by rfl) (fun K hK => ?_)
    (refine wp_append_any _ (.tmp 16) (.tmp 22) _ rfl w0.heap.size 55 i0 _ 2 24 Try.underlying41 hi0 hz0' hz1 hz2 rfl (by omega) _ 0 _ rfl HA.out _ A k _ ((xs.take k).flatMap ic) rfl (HRD1.out.below HBL.out) ics_one (by unfold maxLen; omega) (by omega) HBL.out.size ?_; intro v2 w3 hown2 hg2 hat2)
    (refine hK.out _ _ ?_ (fun hHeld => ?_))
    · exact SK.out _ (HBL.out.grown hg2 HBL.out.size (fun g hg => (HA.out.lt g hg).1))
    clear hK K
    replace HBL := Lib.hid (HBL.out.grown hg2 HBL.out.size (fun g hg => (HA.out.lt g hg).1))
    replace HA := Lib.hid hown2
    clear hown2 hg2 hat2
    obtain ⟨va, rfl⟩ : ∃ x : Value, x = v2 := ⟨_, rfl⟩
    obtain ⟨wc, rfl⟩ : ∃ x : World, x = w3 := ⟨_, rfl⟩
    refine stepZ 16 rfl (by kernel_rfl) (by rfl) (fun K hK => ?_)
    (refine wp_append_any _ (.tmp 23) (.tmp 30) _ rfl w0.heap.size 55 i0 _ 2 24 Try.underlying41 hi0 hz0' hz1 hz2 rfl (by omega) _ (0 + k) _ rfl HA.out _ A2 (n - (k + 1)) _ ((xs.drop (k + 1)).flatMap ic) rfl (HRD2.out.below HBL.out) ics_one (by unfold maxLen; omega) (by omega) HBL.out.size ?_; intro v2 w3 hown2 hg2 hat2)
    (refine hK.out _ _ ?_ (fun hHeld => ?_))
    · exact SK.out _ (HBL.out.grown hg2 HBL.out.size (fun g hg => (HA.out.lt g hg).1))
    clear hK K
    replace HBL := Lib.hid (HBL.out.grown hg2 HBL.out.size (fun g hg => (HA.out.lt g hg).1))
    replace HA := Lib.hid hown2
    clear hown2 hg2 hat2
    obtain ⟨va, rfl⟩ : ∃ x : Value, x = v2 := ⟨_, rfl⟩
    obtain ⟨wc, rfl⟩ : ∃ x : World, x = w3 := ⟨_, rfl⟩
    refine stepZ 17 rfl (by kernel_rfl) (by rfl) (fun K hK => ?_)
    go_simp
    refine hK.out _ _ hHeld (fun hHeld => ?_)
    clear hK K
    ((refine takeYZ 18 (by kernel_rfl) (v := ?_) rfl (by kernel_rfl) (by kernel_rfl) (by kernel_rfl) (fun _ _ _ h => h) (by rfl) (by assumption) ?_ ?_; rotate_left; · (intro w hSw; (try dsimp only at hSw); go_simp; (first | done | with_reducible rfl))))
    (try simp only [Act.put, List.setIfInBounds_toArray, List.set_cons_zero, List.set_cons_succ])
    refine endZ rfl (by kernel_rfl) (by kernel_rfl) (by rfl) (fun K hK => ?_)
    obtain ⟨hq1, hq2⟩ := hHeld
    obtain ⟨Av, nv, cv, rfl⟩ := own_form2 HA.out
    go_simp
    refine hK.out _ _ ?_
    clear hK K hs1 hs2 hq1 hq2
    go_wp2
    go_ret
    have hlen : (xs.take k ++ xs.drop (k + 1)).length = 0 + k + (n - (k + 1)) := by rw [List.length_append, List.length_take, List.length_drop]; have := HN.out; omega
    have hA9 := HA.out
    rw [List.nil_append, ← List.flatMap_append] at hA9
    have ho2 : Only (fun g => g = c) w (wc.setCell ⟨c, 1, none⟩ (.slice Av nv cv)) := Only.setCell (S := fun g => g = c) ((only_fresh HB2.out).trans (only_fresh HBL.out)) (p := ⟨c, 1, none⟩) (.inl rfl) _
    have hst : Only (fun g => g = c) wc (wc.setCell ⟨c, 1, none⟩ (.slice Av nv cv)) := Only.setCell (S := fun g => g = c) (Only.refl _ wc) (p := ⟨c, 1, none⟩) (.inl rfl) _
    have hRW := HR.out.below HBL.out
    have hclt := HR.out.blk.lt
    have hsz2 := HB2.out.size
    have hav : ∀ g, (Value.slice Av nv cv).ownBlock = some g → w.heap.size ≤ g ∧ g ≠ c ∧ g < wc.heap.size := fun g hg => by have := HA.out.lt g hg; have := HCW.out; omega
    refine .inr ⟨HYS.out, rfl, _, HSI.out, vF, .slice Av nv cv, fun g => N g ∨ (Value.slice Av nv cv).ownBlock = some g, ⟨hRW.blk.set_ 1 _, ?_, fun g hg => .inr hg, (hRW.fr.apart hst fun g hg e => by subst e; exact HR.out.nc hg).mono fun g hg => .inl hg, fun h9 => ?_, fun g hg => ?_, HR.out.le⟩, ho2, fun g hg => ?_⟩
    · have h9 := own_only hA9 ((Only.refl (fun j => j = c) wc).setCell (p := ⟨c, 1, none⟩) (.inl rfl) (.slice Av nv cv)) (fun j e => by subst e; exact hclt)
      show World.ownsRow _ _ _ _ _ _ _
      rw [hlen]
      exact ownsRow_mono h9 (by have := (HR.out.le); omega)
    · rcases h9 with h9 | h9
      · exact HR.out.nc h9
      · exact (hav c h9).2.1 rfl
    · have hsz9 := hst.size
      rcases hg with hg | hg
      · have h8 := HR.out.nl g hg; have := HBL.out.size; exact ⟨h8.1, by omega⟩
      · have := hav g hg; have := HR.out.le; have := HCW.out; exact ⟨by omega, by omega⟩
    · rcases hg with hg | hg
      · exact .inl hg
      · exact .inr (hav g hg).1
end Go.Proofs.Ytkpngkdkkcadfaa
