import Derived.Test.YtjofegjiakjjhaaDoorMSct
import Derived.Test.YtjofegjiakjjhaaDoorMQui
/- Script, the document's own: Text. -/
namespace Go.Proofs.YtjofegjiakjjhaaDoor
open Go.RowKit Go.Lib

/-- A step's cells in memory. -/
structure StAt (w0 w : World) (b : Nat) (s : St) (F : Value) : Prop where
  blk : Blk w b 25 (stC s F)
  fl : FailsAt w w.heap.size F s.fails
  be : Below w0.heap.size w0 w
theorem FailsAt.below {w w' : World} {F : Value} {l : List Bool} (h : FailsAt w w.heap.size F l) (hb : Below w.heap.size w w') : FailsAt w' w'.heap.size F l := by
  obtain ⟨A, c, e, hr⟩ := h
  exact ⟨A, c, e, (hr.below hb).more hb.size⟩
theorem StAt.below {w0 w w' : World} {b : Nat} {s : St} {F : Value} (h : StAt w0 w b s F) (hb : Below w.heap.size w w') : StAt w0 w' b s F := ⟨h.blk.below hb h.blk.lt, h.fl.below hb, h.be.trans (hb.mono h.be.size)⟩
theorem StAt.box {w : World} {s : St} {F : Value} (h : FailsAt w w.heap.size F s.fails) : StAt w (w.alloc (.cells (stC s F) 25)) w.heap.size s F :=
  ⟨Blk.new _ _ _, h.below ((Below.refl _ _).alloc (Nat.le_refl _) _), (Below.refl _ _).alloc (Nat.le_refl _) _⟩
theorem StAt.cells {w0 w' : World} {b : Nat} {s : St} {F : Value} (h : StAt w0 w' b s F) : w'.cell? ⟨b, 0, none⟩ = some (.int .i64 s.kind) ∧ w'.cell? ⟨b, 1, none⟩ = some (.int .i64 s.guest) ∧ w'.cell? ⟨b, 2, none⟩ = some (.int .u64 s.addr) ∧ w'.cell? ⟨b, 3, none⟩ = some (.int .i64 s.size) ∧ w'.cell? ⟨b, 4, none⟩ = some (.int .u64 s.value) ∧ w'.cell? ⟨b, 5, none⟩ = some (.int .i64 s.page) ∧ w'.cell? ⟨b, 6, none⟩ = some (.bool s.on) ∧ w'.cell? ⟨b, 7, none⟩ = some (.int .i64 s.asid) ∧ w'.cell? ⟨b, 8, none⟩ = some (.int .i64 s.what) ∧ w'.cell? ⟨b, 9, none⟩ = some (.int .i64 s.set) ∧ w'.cell? ⟨b, 10, none⟩ = some (.int .i64 s.way) ∧ w'.cell? ⟨b, 11, none⟩ = some (F) :=
  ⟨(h.blk.cell 0).trans rfl, (h.blk.cell 1).trans rfl, (h.blk.cell 2).trans rfl, (h.blk.cell 3).trans rfl, (h.blk.cell 4).trans rfl, (h.blk.cell 5).trans rfl, (h.blk.cell 6).trans rfl, (h.blk.cell 7).trans rfl, (h.blk.cell 8).trans rfl, (h.blk.cell 9).trans rfl, (h.blk.cell 10).trans rfl, (h.blk.cell 11).trans rfl⟩
def TextIs (s : St) (w : World) (e : Ending) (w' : World) : Prop := e = .returned (.tuple #[bv (TextS s).1, .int .i64 (TextS s).2]) ∧ Below w.heap.size w w'
/-- The rounds over a form's letters. -/
def RtR (w0 : World) (b : Nat) (s : St) (F : Value) (w0s : Bs) (fs : List Fd) (vt vi : Value) (wr : World) : Prop := ∃ (i : Nat) (ws : List Bs), vi = .int .i64 i ∧ i ≤ fs.length ∧ wrds s (fs.take i) = some ws ∧ vt = bv (join (w0s :: ws) [32]) ∧ (join (w0s :: ws) [32]).length ≤ 7 + i * 2000000 ∧ (∀ j, j < i → fs[j]? = some .f → s.fails.length ≤ 1000) ∧ StAt w0 wr b s F
set_option maxRecDepth 20000 in
set_option maxHeartbeats 8000000 in
theorem rtext (s : St) (hs : s.ok) (F : Value) (w : World) (hf : FailsAt w w.heap.size F s.fails) (hl : s.fails.length ≤ 1000000) :
    Calls Tryd.prog 12 #[.agg (stC s F)] w (TextIs s w) := by
  have HP := Lib.hid (StAt.box hf)
  by_cases hk : s.kind < 1 ∨ 32 < s.kind
  · have HT := Lib.hid (textS_out hk)
    have e0 := HP.out.cells.1
    unfold TextIs
    rw [HT.out]
    have hbx := HP.out.be
    clear HT HP hf
    unfold stC at e0 hbx ⊢
    rcases (show s.kind < 1 ∨ (¬ s.kind < 1 ∧ s.kind > 32) by omega) with hk1 | ⟨hk1, hk2⟩
    · have q1 : decide (s.kind < 1) = true := by simpa using hk1
      clear hk hk1
      go_enter Tryd.func12, Tryd.ntmps12
      go_upto_region 1 with fail
      go_quiet (fail)
      go_wp2
      go_ret2
      exact ⟨rfl, below_drewN hbx _⟩
    · have q1 : decide (s.kind < 1) = false := by simpa using hk1
      have q2 : decide (s.kind > 32) = true := by simpa using hk2
      clear hk hk1 hk2
      go_enter Tryd.func12, Tryd.ntmps12
      go_upto_region 1 with fail
      go_quiet (fail)
      go_wp2
      go_ret2
      exact ⟨rfl, below_drewN hbx _⟩
  · obtain ⟨n, hn⟩ : ∃ n : Nat, s.kind = n := ⟨s.kind.toNat, by omega⟩
    have h1 : 1 ≤ n := by omega
    have h2 : n ≤ 32 := by omega
    obtain ⟨w0s, fs, hkd, hnm, hfm, hwl, hfl⟩ := kd_at h1 h2
    obtain ⟨A, cc, rfl, hr⟩ := hf
    have HFm := Lib.hid (fun w => (show Calls Tryd.prog 23 #[.int .i64 s.kind] w fun e w' => e = .returned (bv (fs.map rcd)) ∧ w = w' from by rw [hn, ← hfm]; exact rform h1 h2 w))
    have HNm := Lib.hid (fun w => (show Calls Tryd.prog 29 #[.int .i64 s.kind] w (NumIs w w0s) from by rw [hn, ← hnm]; exact rname h1 h2 w))
    have HK := Lib.hid (show s.kind = n ∧ 1 ≤ n ∧ n ≤ 32 ∧ kdT[n]? = some (w0s, fs) from ⟨hn, h1, h2, hkd⟩)
    have hRE := rest_eq (s := s) h1 h2 hkd
    obtain ⟨f, hf9⟩ : ∃ f, fs.map rcd = f := ⟨_, rfl⟩
    have hfm5 : f.length = fs.length := by rw [← hf9, List.length_map]
    obtain ⟨m, hm⟩ : ∃ m, fs.length = m := ⟨_, rfl⟩
    have HM := Lib.hid hm
    rw [hm] at hfl hfm5
    obtain ⟨rb, hrb⟩ : ∃ b, restB s f = b := ⟨_, rfl⟩
    have HRB := Lib.hid (fun w => (rrest s A cc f (by omega) w).mono fun e w' h => (show e = .returned (.bool rb) ∧ Below w.heap.size w w' from by rw [← hrb]; exact h))
    have HFG := Lib.hid (fun i c (h : fs[i]? = some c) (hi : i < f.length) => (show f[i] = rcd c from by
      have : f[i]? = some (rcd c) := by rw [← hf9, List.getElem?_map, h]; rfl
      rw [List.getElem?_eq_getElem hi] at this
      exact Option.some.inj this))
    rw [hf9, hrb] at hRE
    rw [hf9] at HFm
    have HRE := Lib.hid hRE
    have q1 : decide (s.kind < 1) = false := by simp; omega
    have q2 : decide (s.kind > 32) = false := by simp; omega
    have HL := Lib.hid hl
    clear hn h1 h2 hkd hnm hfm hk hr hm hf9 hrb hRE hl
    unfold stC at HP
    go_enter Tryd.func12, Tryd.ntmps12
    go_upto_region 1 with fail
    refine wp_region_held_drew (S := (fun w' => w'.cell? ⟨w.heap.size, 0, none⟩ = some (.int .i64 s.kind) ∧ w'.cell? ⟨w.heap.size, 1, none⟩ = some (.int .i64 s.guest) ∧ w'.cell? ⟨w.heap.size, 2, none⟩ = some (.int .u64 s.addr) ∧ w'.cell? ⟨w.heap.size, 3, none⟩ = some (.int .i64 s.size) ∧ w'.cell? ⟨w.heap.size, 4, none⟩ = some (.int .u64 s.value) ∧ w'.cell? ⟨w.heap.size, 5, none⟩ = some (.int .i64 s.page) ∧ w'.cell? ⟨w.heap.size, 6, none⟩ = some (.bool s.on) ∧ w'.cell? ⟨w.heap.size, 7, none⟩ = some (.int .i64 s.asid) ∧ w'.cell? ⟨w.heap.size, 8, none⟩ = some (.int .i64 s.what) ∧ w'.cell? ⟨w.heap.size, 9, none⟩ = some (.int .i64 s.set) ∧ w'.cell? ⟨w.heap.size, 10, none⟩ = some (.int .i64 s.way) ∧ w'.cell? ⟨w.heap.size, 11, none⟩ = some (.slice A s.fails.length cc))) (by kernel_rfl) ?_ (fun hHeld => ?_)
    · exact HP.out.cells
    replace HP := Lib.hid (HP.out.below (Below.refl _ _).drew)
    unfold stC at HP
    generalize (w.alloc _).drew = wc at *
    ((refine takeY 0 (v := ?_) rfl (by kernel_rfl) (by kernel_rfl) (by kernel_rfl) (fun _ _ _ h => h) (by rfl) (by assumption) ?_ ?_; rotate_left; · (intro w hSw; (try dsimp only at hSw); go_simp; (first | done | with_reducible rfl))))
    (try simp only [Act.put, List.setIfInBounds_toArray, List.set_cons_zero, List.set_cons_succ])
    ((refine takeY 1 (v := ?_) rfl (by kernel_rfl) (by kernel_rfl) (by kernel_rfl) (fun _ _ _ h => h) (by rfl) (by assumption) ?_ ?_; rotate_left; · (intro w hSw; (try dsimp only at hSw); go_simp; (first | done | with_reducible rfl))))
    (try simp only [Act.put, List.setIfInBounds_toArray, List.set_cons_zero, List.set_cons_succ])
    ((refine takeY 2 (v := ?_) rfl (by kernel_rfl) (by kernel_rfl) (by kernel_rfl) (fun _ _ _ h => h) (by rfl) (by assumption) ?_ ?_; rotate_left; · (intro w hSw; (try dsimp only at hSw); go_simp; (first | done | with_reducible rfl))))
    (try simp only [Act.put, List.setIfInBounds_toArray, List.set_cons_zero, List.set_cons_succ])
    ((refine takeY 3 (v := ?_) rfl (by kernel_rfl) (by kernel_rfl) (by kernel_rfl) (fun _ _ _ h => h) (by rfl) (by assumption) ?_ ?_; rotate_left; · (intro w hSw; (try dsimp only at hSw); go_simp; (first | done | with_reducible rfl))))
    (try simp only [Act.put, List.setIfInBounds_toArray, List.set_cons_zero, List.set_cons_succ])
    (first | (refine takeN 4 rfl (by kernel_rfl) (by kernel_rfl) (by kernel_rfl) (fun _ _ _ h => h) (by rfl) (by assumption) ?_) | (refine takeY 4 (v := ?_) rfl (by kernel_rfl) (by kernel_rfl) (by kernel_rfl) (fun _ _ _ h => h) (by rfl) (by assumption) ?_ ?_; rotate_left; · (intro w hSw; (try dsimp only at hSw); go_simp; (first | done | with_reducible rfl))))
    (try simp only [Act.put, List.setIfInBounds_toArray, List.set_cons_zero, List.set_cons_succ])
    (first | (refine takeN 5 rfl (by kernel_rfl) (by kernel_rfl) (by kernel_rfl) (fun _ _ _ h => h) (by rfl) (by assumption) ?_) | (refine takeY 5 (v := ?_) rfl (by kernel_rfl) (by kernel_rfl) (by kernel_rfl) (fun _ _ _ h => h) (by rfl) (by assumption) ?_ ?_; rotate_left; · (intro w hSw; (try dsimp only at hSw); go_simp; (first | done | with_reducible rfl))))
    (try simp only [Act.put, List.setIfInBounds_toArray, List.set_cons_zero, List.set_cons_succ])
    (first | (refine takeN 6 rfl (by kernel_rfl) (by kernel_rfl) (by kernel_rfl) (fun _ _ _ h => h) (by rfl) (by assumption) ?_) | (refine takeY 6 (v := ?_) rfl (by kernel_rfl) (by kernel_rfl) (by kernel_rfl) (fun _ _ _ h => h) (by rfl) (by assumption) ?_ ?_; rotate_left; · (intro w hSw; (try dsimp only at hSw); go_simp; (first | done | with_reducible rfl))))
    (try simp only [Act.put, List.setIfInBounds_toArray, List.set_cons_zero, List.set_cons_succ])
    ((refine takeY 7 (v := ?_) rfl (by kernel_rfl) (by kernel_rfl) (by kernel_rfl) (fun _ _ _ h => h) (by rfl) (by assumption) ?_ ?_; rotate_left; · (intro w hSw; (try dsimp only at hSw); go_simp; (first | done | with_reducible rfl))))
    (try simp only [Act.put, List.setIfInBounds_toArray, List.set_cons_zero, List.set_cons_succ])
    ((refine takeY 8 (v := ?_) rfl (by kernel_rfl) (by kernel_rfl) (by kernel_rfl) (fun _ _ _ h => h) (by rfl) (by assumption) ?_ ?_; rotate_left; · (intro w hSw; (try dsimp only at hSw); go_simp; (first | done | with_reducible rfl))))
    (try simp only [Act.put, List.setIfInBounds_toArray, List.set_cons_zero, List.set_cons_succ])
    (first | (refine takeN 9 rfl (by kernel_rfl) (by kernel_rfl) (by kernel_rfl) (fun _ _ _ h => h) (by rfl) (by assumption) ?_) | (refine takeY 9 (v := ?_) rfl (by kernel_rfl) (by kernel_rfl) (by kernel_rfl) (fun _ _ _ h => h) (by rfl) (by assumption) ?_ ?_; rotate_left; · (intro w hSw; (try dsimp only at hSw); go_simp; (first | done | with_reducible rfl))))
    (try simp only [Act.put, List.setIfInBounds_toArray, List.set_cons_zero, List.set_cons_succ])
    (first | (refine takeN 10 rfl (by kernel_rfl) (by kernel_rfl) (by kernel_rfl) (fun _ _ _ h => h) (by rfl) (by assumption) ?_) | (refine takeY 10 (v := ?_) rfl (by kernel_rfl) (by kernel_rfl) (by kernel_rfl) (fun _ _ _ h => h) (by rfl) (by assumption) ?_ ?_; rotate_left; · (intro w hSw; (try dsimp only at hSw); go_simp; (first | done | with_reducible rfl))))
    (try simp only [Act.put, List.setIfInBounds_toArray, List.set_cons_zero, List.set_cons_succ])
    (first | (refine takeN 11 rfl (by kernel_rfl) (by kernel_rfl) (by kernel_rfl) (fun _ _ _ h => h) (by rfl) (by assumption) ?_) | (refine takeY 11 (v := ?_) rfl (by kernel_rfl) (by kernel_rfl) (by kernel_rfl) (fun _ _ _ h => h) (by rfl) (by assumption) ?_ ?_; rotate_left; · (intro w hSw; (try dsimp only at hSw); go_simp; (first | done | with_reducible rfl))))
    (try simp only [Act.put, List.setIfInBounds_toArray, List.set_cons_zero, List.set_cons_succ])
    refine stepH 12 rfl (by kernel_rfl) (by rfl) (fun K hK => ?_)
    go_simp
    refine (HFm.out _).mono ?_; rintro e _ ⟨rfl, rfl⟩
    (refine hK.out _ _ hHeld (fun hHeld => ?_))
    clear hK K
    refine stepH 13 rfl (by kernel_rfl) (by rfl) (fun K hK => ?_)
    go_simp
    refine (HRB.out _).mono ?_; rintro e wn ⟨rfl, hb⟩
    replace HP := Lib.hid (HP.out.below hb)
    clear hb
    (refine hK.out _ _ ?_ (fun hHeld => ?_))
    · exact HP.out.cells
    clear hK K
    (first | (refine takeN 14 rfl (by kernel_rfl) (by kernel_rfl) (by kernel_rfl) (fun _ _ _ h => h) (by rfl) (by assumption) ?_) | (refine takeY 14 (v := ?_) rfl (by kernel_rfl) (by kernel_rfl) (by kernel_rfl) (fun _ _ _ h => h) (by rfl) (by assumption) ?_ ?_; rotate_left; · (intro w hSw; (try dsimp only at hSw); go_simp; (first | done | with_reducible rfl))))
    (try simp only [Act.put, List.setIfInBounds_toArray, List.set_cons_zero, List.set_cons_succ])
    ((refine takeY 15 (v := ?_) rfl (by kernel_rfl) (by kernel_rfl) (by kernel_rfl) (fun _ _ _ h => h) (by rfl) (by assumption) ?_ ?_; rotate_left; · (intro w hSw; (try dsimp only at hSw); go_simp; (first | done | with_reducible rfl))))
    (try simp only [Act.put, List.setIfInBounds_toArray, List.set_cons_zero, List.set_cons_succ])
    refine wpAnyH_done (by kernel_rfl) ?_ _
    clear hHeld
    cases rb with
    | false =>
      have HT := Lib.hid (textS_bad HK.out.1 HK.out.2.1 HK.out.2.2.1 HK.out.2.2.2 (fun h => by have := HRE.out.2 h; cases this))
      go_wp2
      go_ret2
      exact ⟨by rw [HT.out]; rfl, HP.out.be⟩
    | true =>
      have HR9 := Lib.hid (HRE.out.1 rfl)
      clear HRE HRB
      have e0 := HP.out.cells.1
      go_wp2_with fail
      refine (HNm.out _).mono ?_; rintro e w3 ⟨rfl, hb⟩
      replace HP := Lib.hid (HP.out.below hb)
      clear hb e0 HNm
      have e0 := HP.out.cells.1
      go_wp2_with fail
      refine (HFm.out _).mono ?_; rintro e _ ⟨rfl, rfl⟩
      clear HFm e0
      go_wp2_with fail
      go_loopw [4, 6] (RtR w w.heap.size s (.slice A s.fails.length cc) w0s fs) (fun _ v _ => m - cntZ v)
      case atStart => exact ⟨0, [], rfl, Nat.zero_le _, rfl, by rw [join_one], by rw [join_one]; omega, fun j hj => absurd hj (Nat.not_lt_zero _), HP.out⟩
      case round =>
        clear HP
        obtain ⟨i, ws, rfl, hi, hws, rfl, hjl, hff, hP⟩ := hrel
        have HFF := Lib.hid hff
        clear hff
        have HP := Lib.hid hP
        have HWS := Lib.hid hws
        clear hP hws
        obtain ⟨t, ht⟩ : ∃ t, join (w0s :: ws) [32] = t := ⟨_, rfl⟩
        have HT := Lib.hid ht
        rw [ht] at hjl ⊢
        clear ht
        have him : i ≤ m := by rw [← HM.out]; exact hi
        clear hi
        by_cases hin : i < m
        · have g1 : decide ((i : Int) < (m : Int)) = true := by simp; exact hin
          have g1' : decide (i < m) = true := by simp; exact hin
          obtain ⟨c, hc⟩ : ∃ c, fs[i]? = some c := ⟨_, List.getElem?_eq_getElem (by rw [HM.out]; exact hin)⟩
          have HC := Lib.hid hc
          have hsz : i < (⟨f.toArray⟩ : ByteArray).size := (show i < f.length by omega)
          have HX := Lib.hid (show (⟨f.toArray⟩ : ByteArray)[i]'hsz = rcd c from HFG.out i c hc (by omega))
          have e11 := HP.out.cells.2.2.2.2.2.2.2.2.2.2.2
          clear hc
          by_cases hcf : c = .f
          · have hx1 : ((((⟨f.toArray⟩ : ByteArray)[i]'hsz).toNat : Int) == 98) = true := by rw [HX.out, hcf]; decide
            by_cases hbig : 1000 < s.fails.length
            · have g3 : decide ((s.fails.length : Int) > 1000) = true := by simp; omega
              have g3' : decide (1000 < s.fails.length) = true := by simp; exact hbig
              have HTB := Lib.hid (show TextS s = ([], 2) from by
                obtain ⟨k1, k2, k3, k4⟩ := HK.out
                have hf31 : fs = [.f] := (kd_f k4).1 (Classical.byContradiction fun e => (kd_f k4).2 e (hcf ▸ List.mem_of_getElem? HC.out))
                rw [textS_some k1 k2 k3 k4 (by rw [hf31]; rfl) HR9.out, if_pos hbig])
              clear hcf
              go_wp2
              go_ret2
              exact ⟨by rw [HTB.out]; rfl, HP.out.be⟩
            · have g3 : decide ((s.fails.length : Int) > 1000) = false := by simp; omega
              have g3' : decide (1000 < s.fails.length) = false := by simp; omega
              have HSM := Lib.hid (show c = .f → s.fails.length ≤ 1000 from fun _ => by omega)
              clear hcf hbig
              go_upto_region 10 with fail
              refine wp_region_held_drew (S := (fun w' => w'.cell? ⟨w.heap.size, 0, none⟩ = some (.int .i64 s.kind) ∧ w'.cell? ⟨w.heap.size, 1, none⟩ = some (.int .i64 s.guest) ∧ w'.cell? ⟨w.heap.size, 2, none⟩ = some (.int .u64 s.addr) ∧ w'.cell? ⟨w.heap.size, 3, none⟩ = some (.int .i64 s.size) ∧ w'.cell? ⟨w.heap.size, 4, none⟩ = some (.int .u64 s.value) ∧ w'.cell? ⟨w.heap.size, 5, none⟩ = some (.int .i64 s.page) ∧ w'.cell? ⟨w.heap.size, 6, none⟩ = some (.bool s.on) ∧ w'.cell? ⟨w.heap.size, 7, none⟩ = some (.int .i64 s.asid) ∧ w'.cell? ⟨w.heap.size, 8, none⟩ = some (.int .i64 s.what) ∧ w'.cell? ⟨w.heap.size, 9, none⟩ = some (.int .i64 s.set) ∧ w'.cell? ⟨w.heap.size, 10, none⟩ = some (.int .i64 s.way) ∧ w'.cell? ⟨w.heap.size, 11, none⟩ = some (.slice A s.fails.length cc))) (by kernel_rfl) ?_ (fun hHeld => ?_)
              · exact HP.out.cells
              replace HP := Lib.hid (HP.out.below (Below.refl _ _).drew)
              clear e11
              generalize wr.drew = wc at *
              ((refine takeY 0 (v := ?_) rfl (by kernel_rfl) (by kernel_rfl) (by kernel_rfl) (fun _ _ _ h => h) (by rfl) (by assumption) ?_ ?_; rotate_left; · (intro w hSw; (try dsimp only at hSw); go_simp; (first | done | with_reducible rfl))))
              (try simp only [Act.put, List.setIfInBounds_toArray, List.set_cons_zero, List.set_cons_succ])
              ((refine takeY 1 (v := ?_) rfl (by kernel_rfl) (by kernel_rfl) (by kernel_rfl) (fun _ _ _ h => h) (by rfl) (by assumption) ?_ ?_; rotate_left; · (intro w hSw; (try dsimp only at hSw); go_simp; (first | done | with_reducible rfl))))
              (try simp only [Act.put, List.setIfInBounds_toArray, List.set_cons_zero, List.set_cons_succ])
              ((refine takeY 2 (v := ?_) rfl (by kernel_rfl) (by kernel_rfl) (by kernel_rfl) (fun _ _ _ h => h) (by rfl) (by assumption) ?_ ?_; rotate_left; · (intro w hSw; (try dsimp only at hSw); go_simp; (first | done | with_reducible rfl))))
              (try simp only [Act.put, List.setIfInBounds_toArray, List.set_cons_zero, List.set_cons_succ])
              ((refine takeY 3 (v := ?_) rfl (by kernel_rfl) (by kernel_rfl) (by kernel_rfl) (fun _ _ _ h => h) (by rfl) (by assumption) ?_ ?_; rotate_left; · (intro w hSw; (try dsimp only at hSw); go_simp; (first | done | with_reducible rfl))))
              (try simp only [Act.put, List.setIfInBounds_toArray, List.set_cons_zero, List.set_cons_succ])
              refine stepH 4 rfl (by kernel_rfl) (by rfl) (fun K hK => ?_)
              go_simp
              rw [HX.out]
              refine (rfield s hs _ _ HP.out.fl HL.out c).mono ?_; rintro e wn ⟨x, ok, rfl, hwd, hb⟩
              have HWD := Lib.hid hwd
              replace HP := Lib.hid (HP.out.below hb)
              clear hb hwd
              (refine hK.out _ _ ?_ (fun hHeld => ?_))
              · exact HP.out.cells
              clear hK K
              ((refine takeY 5 (v := ?_) rfl (by kernel_rfl) (by kernel_rfl) (by kernel_rfl) (fun _ _ _ h => h) (by rfl) (by assumption) ?_ ?_; rotate_left; · (intro w hSw; (try dsimp only at hSw); go_simp; (first | done | with_reducible rfl))))
              (try simp only [Act.put, List.setIfInBounds_toArray, List.set_cons_zero, List.set_cons_succ])
              ((refine takeY 6 (v := ?_) rfl (by kernel_rfl) (by kernel_rfl) (by kernel_rfl) (fun _ _ _ h => h) (by rfl) (by assumption) ?_ ?_; rotate_left; · (intro w hSw; (try dsimp only at hSw); go_simp; (first | done | with_reducible rfl))))
              (try simp only [Act.put, List.setIfInBounds_toArray, List.set_cons_zero, List.set_cons_succ])
              ((refine takeY 7 (v := ?_) rfl (by kernel_rfl) (by kernel_rfl) (by kernel_rfl) (fun _ _ _ h => h) (by rfl) (by assumption) ?_ ?_; rotate_left; · (intro w hSw; (try dsimp only at hSw); go_simp; (first | done | with_reducible rfl))))
              (try simp only [Act.put, List.setIfInBounds_toArray, List.set_cons_zero, List.set_cons_succ])
              ((refine takeY 8 (v := ?_) rfl (by kernel_rfl) (by kernel_rfl) (by kernel_rfl) (fun _ _ _ h => h) (by rfl) (by assumption) ?_ ?_; rotate_left; · (intro w hSw; (try dsimp only at hSw); go_simp; (first | done | with_reducible rfl))))
              (try simp only [Act.put, List.setIfInBounds_toArray, List.set_cons_zero, List.set_cons_succ])
              ((refine takeY 9 (v := ?_) rfl (by kernel_rfl) (by kernel_rfl) (by kernel_rfl) (fun _ _ _ h => h) (by rfl) (by assumption) ?_ ?_; rotate_left; · (intro w hSw; (try dsimp only at hSw); go_simp; (first | done | with_reducible rfl))))
              (try simp only [Act.put, List.setIfInBounds_toArray, List.set_cons_zero, List.set_cons_succ])
              refine wpAnyH_done (by kernel_rfl) ?_ _
              clear hHeld
              cases ok with
              | false =>
                have HTN := Lib.hid (show TextS s = ([], 1) from by obtain ⟨k1, k2, k3, k4⟩ := HK.out; exact textS_none k1 k2 k3 k4 (wrds_none HC.out HWD.out))
                go_wp2
                go_ret2
                exact ⟨by rw [HTN.out]; rfl, HP.out.be⟩
              | true =>
                have hxl := wrd_len hs.towf HWD.out
                have hl9 := HL.out
                have l3 : ¬ 9223372036854775807 < t.length + 1 := by omega
                have l4 : ¬ 9223372036854775807 < t.length + 1 + x.length := by omega
                go_wp2
                refine ⟨⟨i + 1, ws ++ [x], by go_num, by rw [HM.out]; omega, by rw [wrds_snoc HC.out HWS.out, HWD.out]; rfl, ?_, ?_, ?_, HP.out⟩, cntZ_lt hin⟩
                · rw [join_snoc, HT.out]
                  unfold bv
                  rw [← bv_app, ← bv_app]
                · rw [join_snoc, HT.out]; simp only [List.length_append, List.length_cons, List.length_nil]; omega
                · intro j hj he
                  by_cases hji : j = i
                  · subst hji; rw [HC.out] at he; exact HSM.out (Option.some.inj he)
                  · exact HFF.out j (by omega) he
          · have hx1 : ((((⟨f.toArray⟩ : ByteArray)[i]'hsz).toNat : Int) == 98) = false := by rw [HX.out]; cases c <;> first | decide | exact absurd rfl hcf
            have HSM := Lib.hid (show c = .f → s.fails.length ≤ 1000 from fun e => absurd e hcf)
            clear hcf
            go_upto_region 10 with fail
            refine wp_region_held_drew (S := (fun w' => w'.cell? ⟨w.heap.size, 0, none⟩ = some (.int .i64 s.kind) ∧ w'.cell? ⟨w.heap.size, 1, none⟩ = some (.int .i64 s.guest) ∧ w'.cell? ⟨w.heap.size, 2, none⟩ = some (.int .u64 s.addr) ∧ w'.cell? ⟨w.heap.size, 3, none⟩ = some (.int .i64 s.size) ∧ w'.cell? ⟨w.heap.size, 4, none⟩ = some (.int .u64 s.value) ∧ w'.cell? ⟨w.heap.size, 5, none⟩ = some (.int .i64 s.page) ∧ w'.cell? ⟨w.heap.size, 6, none⟩ = some (.bool s.on) ∧ w'.cell? ⟨w.heap.size, 7, none⟩ = some (.int .i64 s.asid) ∧ w'.cell? ⟨w.heap.size, 8, none⟩ = some (.int .i64 s.what) ∧ w'.cell? ⟨w.heap.size, 9, none⟩ = some (.int .i64 s.set) ∧ w'.cell? ⟨w.heap.size, 10, none⟩ = some (.int .i64 s.way) ∧ w'.cell? ⟨w.heap.size, 11, none⟩ = some (.slice A s.fails.length cc))) (by kernel_rfl) ?_ (fun hHeld => ?_)
            · exact HP.out.cells
            replace HP := Lib.hid (HP.out.below (Below.refl _ _).drew)
            clear e11
            generalize wr.drew = wc at *
            ((refine takeY 0 (v := ?_) rfl (by kernel_rfl) (by kernel_rfl) (by kernel_rfl) (fun _ _ _ h => h) (by rfl) (by assumption) ?_ ?_; rotate_left; · (intro w hSw; (try dsimp only at hSw); go_simp; (first | done | with_reducible rfl))))
            (try simp only [Act.put, List.setIfInBounds_toArray, List.set_cons_zero, List.set_cons_succ])
            ((refine takeY 1 (v := ?_) rfl (by kernel_rfl) (by kernel_rfl) (by kernel_rfl) (fun _ _ _ h => h) (by rfl) (by assumption) ?_ ?_; rotate_left; · (intro w hSw; (try dsimp only at hSw); go_simp; (first | done | with_reducible rfl))))
            (try simp only [Act.put, List.setIfInBounds_toArray, List.set_cons_zero, List.set_cons_succ])
            ((refine takeY 2 (v := ?_) rfl (by kernel_rfl) (by kernel_rfl) (by kernel_rfl) (fun _ _ _ h => h) (by rfl) (by assumption) ?_ ?_; rotate_left; · (intro w hSw; (try dsimp only at hSw); go_simp; (first | done | with_reducible rfl))))
            (try simp only [Act.put, List.setIfInBounds_toArray, List.set_cons_zero, List.set_cons_succ])
            ((refine takeY 3 (v := ?_) rfl (by kernel_rfl) (by kernel_rfl) (by kernel_rfl) (fun _ _ _ h => h) (by rfl) (by assumption) ?_ ?_; rotate_left; · (intro w hSw; (try dsimp only at hSw); go_simp; (first | done | with_reducible rfl))))
            (try simp only [Act.put, List.setIfInBounds_toArray, List.set_cons_zero, List.set_cons_succ])
            refine stepH 4 rfl (by kernel_rfl) (by rfl) (fun K hK => ?_)
            go_simp
            rw [HX.out]
            refine (rfield s hs _ _ HP.out.fl HL.out c).mono ?_; rintro e wn ⟨x, ok, rfl, hwd, hb⟩
            have HWD := Lib.hid hwd
            replace HP := Lib.hid (HP.out.below hb)
            clear hb hwd
            (refine hK.out _ _ ?_ (fun hHeld => ?_))
            · exact HP.out.cells
            clear hK K
            ((refine takeY 5 (v := ?_) rfl (by kernel_rfl) (by kernel_rfl) (by kernel_rfl) (fun _ _ _ h => h) (by rfl) (by assumption) ?_ ?_; rotate_left; · (intro w hSw; (try dsimp only at hSw); go_simp; (first | done | with_reducible rfl))))
            (try simp only [Act.put, List.setIfInBounds_toArray, List.set_cons_zero, List.set_cons_succ])
            ((refine takeY 6 (v := ?_) rfl (by kernel_rfl) (by kernel_rfl) (by kernel_rfl) (fun _ _ _ h => h) (by rfl) (by assumption) ?_ ?_; rotate_left; · (intro w hSw; (try dsimp only at hSw); go_simp; (first | done | with_reducible rfl))))
            (try simp only [Act.put, List.setIfInBounds_toArray, List.set_cons_zero, List.set_cons_succ])
            ((refine takeY 7 (v := ?_) rfl (by kernel_rfl) (by kernel_rfl) (by kernel_rfl) (fun _ _ _ h => h) (by rfl) (by assumption) ?_ ?_; rotate_left; · (intro w hSw; (try dsimp only at hSw); go_simp; (first | done | with_reducible rfl))))
            (try simp only [Act.put, List.setIfInBounds_toArray, List.set_cons_zero, List.set_cons_succ])
            ((refine takeY 8 (v := ?_) rfl (by kernel_rfl) (by kernel_rfl) (by kernel_rfl) (fun _ _ _ h => h) (by rfl) (by assumption) ?_ ?_; rotate_left; · (intro w hSw; (try dsimp only at hSw); go_simp; (first | done | with_reducible rfl))))
            (try simp only [Act.put, List.setIfInBounds_toArray, List.set_cons_zero, List.set_cons_succ])
            ((refine takeY 9 (v := ?_) rfl (by kernel_rfl) (by kernel_rfl) (by kernel_rfl) (fun _ _ _ h => h) (by rfl) (by assumption) ?_ ?_; rotate_left; · (intro w hSw; (try dsimp only at hSw); go_simp; (first | done | with_reducible rfl))))
            (try simp only [Act.put, List.setIfInBounds_toArray, List.set_cons_zero, List.set_cons_succ])
            refine wpAnyH_done (by kernel_rfl) ?_ _
            clear hHeld
            cases ok with
            | false =>
              have HTN := Lib.hid (show TextS s = ([], 1) from by obtain ⟨k1, k2, k3, k4⟩ := HK.out; exact textS_none k1 k2 k3 k4 (wrds_none HC.out HWD.out))
              go_wp2
              go_ret2
              exact ⟨by rw [HTN.out]; rfl, HP.out.be⟩
            | true =>
              have hxl := wrd_len hs.towf HWD.out
              have hl9 := HL.out
              have l3 : ¬ 9223372036854775807 < t.length + 1 := by omega
              have l4 : ¬ 9223372036854775807 < t.length + 1 + x.length := by omega
              go_wp2
              refine ⟨⟨i + 1, ws ++ [x], by go_num, by rw [HM.out]; omega, by rw [wrds_snoc HC.out HWS.out, HWD.out]; rfl, ?_, ?_, ?_, HP.out⟩, cntZ_lt hin⟩
              · rw [join_snoc, HT.out]
                unfold bv
                rw [← bv_app, ← bv_app]
              · rw [join_snoc, HT.out]; simp only [List.length_append, List.length_cons, List.length_nil]; omega
              · intro j hj he
                by_cases hji : j = i
                · subst hji; rw [HC.out] at he; exact HSM.out (Option.some.inj he)
                · exact HFF.out j (by omega) he
        · obtain rfl : i = m := by omega
          have g1 : decide ((i : Int) < (i : Int)) = false := by simp
          have HW2 := Lib.hid (show wrds s fs = some ws from by rw [← HWS.out, List.take_of_length_le (by rw [HM.out]; exact Nat.le_refl _)])
          have HTE := Lib.hid (show TextS s = (t, 0) from by
            obtain ⟨k1, k2, k3, k4⟩ := HK.out
            rw [textS_some k1 k2 k3 k4 HW2.out HR9.out, HT.out, if_neg]
            rcases HR9.out.2 with e | e
            · have hf31 := (kd_f k4).1 e
              have := HFF.out 0 (by have := HM.out; rw [hf31] at this; simp at this; omega) (by rw [hf31]; rfl)
              omega
            · rw [e]; simp)
          go_wp2
          go_ret2
          exact ⟨by rw [HTE.out]; rfl, HP.out.be⟩
end Go.Proofs.YtjofegjiakjjhaaDoor
