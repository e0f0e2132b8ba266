import Derived.Test.YtjofegjiakjjhaaDoorMSsj
import Derived.Test.YtjofegjiakjjhaaDoorMSeo
import Derived.Test.YtjofegjiakjjhaaDoorMSen
import Derived.BigQuiet
/- Script, the law ScriptTells. -/
namespace Go.Proofs.YtjofegjiakjjhaaDoor
open Go.RowKit Go.Lib Mf

theorem rsC_cells {w' : World} {b : Nat} {r : Rs} {P : Value} (h : Blk w' b 47 (rsC r P)) : w'.cell? ⟨b, 0, none⟩ = some (.int .i64 r.code) ∧ w'.cell? ⟨b, 1, none⟩ = some (.int .u64 r.value) ∧ w'.cell? ⟨b, 2, none⟩ = some (.int .i64 r.stage) ∧ w'.cell? ⟨b, 3, none⟩ = some (.int .i64 r.fkind) ∧ w'.cell? ⟨b, 4, none⟩ = some (.int .i64 r.level) ∧ w'.cell? ⟨b, 5, none⟩ = some (.int .u64 r.faddr) ∧ w'.cell? ⟨b, 6, none⟩ = some (.bool r.store) ∧ w'.cell? ⟨b, 7, none⟩ = some P :=
  ⟨(h.cell 0).trans rfl, (h.cell 1).trans rfl, (h.cell 2).trans rfl, (h.cell 3).trans rfl, (h.cell 4).trans rfl, (h.cell 5).trans rfl, (h.cell 6).trans rfl, (h.cell 7).trans rfl⟩
set_option maxRecDepth 20000 in
set_option maxHeartbeats 8000000 in
theorem scriptTells_walk (r : Rs) (hr : r.ok) (A : Option Addr) (c : Nat) (W : World) (he : Env W) (hP : Reads W W.heap.size 1 A r.pages.length (r.pages.map (Value.int .u64))) :
    Calls Tryd.prog 5 #[.agg (rsC r (.slice A r.pages.length c))] W fun e W' => e = .returned (.bool true) ∧ Below W.heap.size W W' := by
  obtain ⟨n, hn⟩ : ∃ n, r.pages.length = n := ⟨_, rfl⟩
  have HN := Lib.hid hn
  have HP := Lib.hid hP
  have HRO := Lib.hid hr
  have HB := Lib.hid (show Blk (W.alloc (.cells (rsC r (.slice A r.pages.length c)) 47)) W.heap.size 47 (rsC r (.slice A r.pages.length c)) from Blk.new _ _ _)
  have HBE := Lib.hid ((Below.refl W.heap.size W).alloc (Nat.le_refl _) (.cells (rsC r (.slice A r.pages.length c)) 47))
  have HE := Lib.hid (he.below HBE.out)
  clear he hP hr
  unfold rsC at HBE HE HB ⊢
  rw [hn] at HB HBE HE ⊢
  clear hn
  go_enter Tryd.func5, Tryd.ntmps5
  go_upto_region 1 with fail
  generalize W.alloc _ = w1 at *
  have cs := rsC_cells (show Blk w1 W.heap.size 47 (rsC r (.slice A n c)) from HB.out)
  by_cases hbig : 40 < n
  · have q : decide ((n : Int) > 40) = true := decide_eq_true (by omega)
    have q' : decide (40 < n) = true := decide_eq_true hbig
    obtain ⟨c0, c1, c2, c3, c4, c5, c6, c7⟩ := cs
    go_quiet (fail)
    have HB3 := Lib.hid (below_drewN HBE.out nq)
    go_wp2
    go_ret
    exact ⟨rfl, HB3.out⟩
  · have q : decide ((n : Int) > 40) = false := decide_eq_false (by omega)
    have q' : decide (40 < n) = false := decide_eq_false hbig
    have HPN := Lib.hid (show r.pages.length ≤ 1000 by have := HN.out; omega)
    have HL8 := Lib.hid (fun w (he : Env w) (hb : Below W.heap.size W w) => (show Calls Tryd.prog 16 #[.agg (rsC r (.slice A n c))] w (NumIs w (TellS r)) from by
      rw [← HN.out]; exact ltell r HRO.out HPN.out A c he ((HP.out.below hb).more hb.size)))
    have HR8 := Lib.hid (fun w (hb : Below W.heap.size W w) => (show Calls Tryd.prog 17 #[.agg (rsC r (.slice A n c))] w (NumIs w (TellS r)) from by
      rw [← HN.out]; exact rtell r HRO.out (Nat.le_trans HPN.out (by decide)) A c w ((HP.out.below hb).more hb.size)))
    refine wp_region_held_drew (S := (fun w' => w'.cell? ⟨W.heap.size, 0, none⟩ = some (.int .i64 r.code) ∧ w'.cell? ⟨W.heap.size, 1, none⟩ = some (.int .u64 r.value) ∧ w'.cell? ⟨W.heap.size, 2, none⟩ = some (.int .i64 r.stage) ∧ w'.cell? ⟨W.heap.size, 3, none⟩ = some (.int .i64 r.fkind) ∧ w'.cell? ⟨W.heap.size, 4, none⟩ = some (.int .i64 r.level) ∧ w'.cell? ⟨W.heap.size, 5, none⟩ = some (.int .u64 r.faddr) ∧ w'.cell? ⟨W.heap.size, 6, none⟩ = some (.bool r.store) ∧ w'.cell? ⟨W.heap.size, 7, none⟩ = some (.slice A n c))) (by kernel_rfl) ?_ (fun hHeld => ?_)
    · exact cs
    clear cs
    replace HB := Lib.hid (show Blk w1.drew W.heap.size 47 (rsC r (.slice A n c)) from HB.out)
    replace HBE := Lib.hid (HBE.out.drew)
    replace HE := Lib.hid (HE.out.below (Below.refl _ _).drew)
    generalize w1.drew = wv at *
    ((refine takeY 0 (v := ?_) rfl (by kernel_rfl) (by kernel_rfl) (by kernel_rfl) (fun _ _ _ h => h) (by rfl) (by assumption) ?_ ?_; rotate_left; · (intro w hSw; (try dsimp only at hSw); go_simp; (first | done | with_reducible rfl))))
    (try simp only [Act.put, List.setIfInBounds_toArray, List.set_cons_zero, List.set_cons_succ])
    ((refine takeY 1 (v := ?_) rfl (by kernel_rfl) (by kernel_rfl) (by kernel_rfl) (fun _ _ _ h => h) (by rfl) (by assumption) ?_ ?_; rotate_left; · (intro w hSw; (try dsimp only at hSw); go_simp; (first | done | with_reducible rfl))))
    (try simp only [Act.put, List.setIfInBounds_toArray, List.set_cons_zero, List.set_cons_succ])
    ((refine takeY 2 (v := ?_) rfl (by kernel_rfl) (by kernel_rfl) (by kernel_rfl) (fun _ _ _ h => h) (by rfl) (by assumption) ?_ ?_; rotate_left; · (intro w hSw; (try dsimp only at hSw); go_simp; (first | done | with_reducible rfl))))
    (try simp only [Act.put, List.setIfInBounds_toArray, List.set_cons_zero, List.set_cons_succ])
    ((refine takeY 3 (v := ?_) rfl (by kernel_rfl) (by kernel_rfl) (by kernel_rfl) (fun _ _ _ h => h) (by rfl) (by assumption) ?_ ?_; rotate_left; · (intro w hSw; (try dsimp only at hSw); go_simp; (first | done | with_reducible rfl))))
    (try simp only [Act.put, List.setIfInBounds_toArray, List.set_cons_zero, List.set_cons_succ])
    ((refine takeY 4 (v := ?_) rfl (by kernel_rfl) (by kernel_rfl) (by kernel_rfl) (fun _ _ _ h => h) (by rfl) (by assumption) ?_ ?_; rotate_left; · (intro w hSw; (try dsimp only at hSw); go_simp; (first | done | with_reducible rfl))))
    (try simp only [Act.put, List.setIfInBounds_toArray, List.set_cons_zero, List.set_cons_succ])
    refine stepH 5 rfl (by kernel_rfl) (by rfl) (fun K hK => ?_)
    go_simp
    refine (told_any HE.out).mono ?_; rintro e wn ⟨rfl, hb⟩
    replace HB := Lib.hid (HB.out.below hb HB.out.lt)
    replace HE := Lib.hid (HE.out.below hb)
    replace HBE := Lib.hid (HBE.out.trans (hb.mono HBE.out.size))
    clear hb
    (refine hK.out _ _ ?_ (fun hHeld => ?_))
    · exact rsC_cells HB.out
    clear hK K
    (first | (refine takeN 6 rfl (by kernel_rfl) (by kernel_rfl) (by kernel_rfl) (fun _ _ _ h => h) (by rfl) (by assumption) ?_) | (refine takeY 6 (v := ?_) rfl (by kernel_rfl) (by kernel_rfl) (by kernel_rfl) (fun _ _ _ h => h) (by rfl) (by assumption) ?_ ?_; rotate_left; · (intro w hSw; (try dsimp only at hSw); go_simp; (first | done | with_reducible rfl))))
    (try simp only [Act.put, List.setIfInBounds_toArray, List.set_cons_zero, List.set_cons_succ])
    (first | (refine takeN 7 rfl (by kernel_rfl) (by kernel_rfl) (by kernel_rfl) (fun _ _ _ h => h) (by rfl) (by assumption) ?_) | (refine takeY 7 (v := ?_) rfl (by kernel_rfl) (by kernel_rfl) (by kernel_rfl) (fun _ _ _ h => h) (by rfl) (by assumption) ?_ ?_; rotate_left; · (intro w hSw; (try dsimp only at hSw); go_simp; (first | done | with_reducible rfl))))
    (try simp only [Act.put, List.setIfInBounds_toArray, List.set_cons_zero, List.set_cons_succ])
    (first | (refine takeN 9 rfl (by kernel_rfl) (by kernel_rfl) (by kernel_rfl) (fun _ _ _ h => h) (by rfl) (by assumption) ?_) | (refine takeY 9 (v := ?_) rfl (by kernel_rfl) (by kernel_rfl) (by kernel_rfl) (fun _ _ _ h => h) (by rfl) (by assumption) ?_ ?_; rotate_left; · (intro w hSw; (try dsimp only at hSw); go_simp; (first | done | with_reducible rfl))))
    (try simp only [Act.put, List.setIfInBounds_toArray, List.set_cons_zero, List.set_cons_succ])
    refine stepH 8 rfl (by kernel_rfl) (by rfl) (fun K hK => ?_)
    go_simp
    refine (HL8.out _ HE.out HBE.out).mono ?_; rintro e wn ⟨rfl, hb⟩
    replace HB := Lib.hid (HB.out.below hb HB.out.lt)
    replace HE := Lib.hid (HE.out.below hb)
    replace HBE := Lib.hid (HBE.out.trans (hb.mono HBE.out.size))
    clear hb
    (refine hK.out _ _ ?_ (fun hHeld => ?_))
    · exact rsC_cells HB.out
    clear hK K
    refine stepH 10 rfl (by kernel_rfl) (by rfl) (fun K hK => ?_)
    go_simp
    refine (HR8.out _ HBE.out).mono ?_; rintro e wn ⟨rfl, hb⟩
    replace HB := Lib.hid (HB.out.below hb HB.out.lt)
    replace HE := Lib.hid (HE.out.below hb)
    replace HBE := Lib.hid (HBE.out.trans (hb.mono HBE.out.size))
    clear hb
    (refine hK.out _ _ ?_ (fun hHeld => ?_))
    · exact rsC_cells HB.out
    clear hK K
    (first | (refine takeN 11 rfl (by kernel_rfl) (by kernel_rfl) (by kernel_rfl) (fun _ _ _ h => h) (by rfl) (by assumption) ?_) | (refine takeY 11 (v := ?_) rfl (by kernel_rfl) (by kernel_rfl) (by kernel_rfl) (fun _ _ _ h => h) (by rfl) (by assumption) ?_ ?_; rotate_left; · (intro w hSw; (try dsimp only at hSw); go_simp; (first | done | with_reducible rfl))))
    (try simp only [Act.put, List.setIfInBounds_toArray, List.set_cons_zero, List.set_cons_succ])
    (first | (refine takeN 12 rfl (by kernel_rfl) (by kernel_rfl) (by kernel_rfl) (fun _ _ _ h => h) (by rfl) (by assumption) ?_) | (refine takeY 12 (v := ?_) rfl (by kernel_rfl) (by kernel_rfl) (by kernel_rfl) (fun _ _ _ h => h) (by rfl) (by assumption) ?_ ?_; rotate_left; · (intro w hSw; (try dsimp only at hSw); go_simp; (first | done | with_reducible rfl))))
    (try simp only [Act.put, List.setIfInBounds_toArray, List.set_cons_zero, List.set_cons_succ])
    ((refine takeY 13 (v := ?_) rfl (by kernel_rfl) (by kernel_rfl) (by kernel_rfl) (fun _ _ _ h => h) (by rfl) (by assumption) ?_ ?_; rotate_left; · (intro w hSw; (try dsimp only at hSw); go_simp; (first | done | with_reducible rfl))))
    (try simp only [Act.put, List.setIfInBounds_toArray, List.set_cons_zero, List.set_cons_succ])
    ((refine takeY 14 (v := ?_) rfl (by kernel_rfl) (by kernel_rfl) (by kernel_rfl) (fun _ _ _ h => h) (by rfl) (by assumption) ?_ ?_; rotate_left; · (intro w hSw; (try dsimp only at hSw); go_simp; (first | done | with_reducible rfl))))
    (try simp only [Act.put, List.setIfInBounds_toArray, List.set_cons_zero, List.set_cons_succ])
    refine wpAnyH_done (by kernel_rfl) ?_ _
    clear hHeld
    go_wp2
    go_ret
    exact ⟨rfl, HBE.out⟩
end Go.Proofs.YtjofegjiakjjhaaDoor
