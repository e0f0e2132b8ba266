import Derived.Test.YtjofegjiakjjhaaDoorMSpq
/- Script, the program: Text. -/
namespace Go.Proofs.YtjofegjiakjjhaaDoor
open Go.RowKit Go.Lib Mf

theorem lkix {n : Nat} {w0 : Bs} {fs : List Fd} (h1 : 1 ≤ n) (h2 : n ≤ 32) (h : kdT[n]? = some (w0, fs)) (w : World) : (Instr.index 63 kindsV (.int .i64 (n : Int))).run Tryd.prog w = .ok (.agg #[bv w0, bv (fs.map pcd)]) w := by
  rcases kind_cases h1 h2 with rfl | rfl | rfl | rfl | rfl | rfl | rfl | rfl | rfl | rfl | rfl | rfl | rfl | rfl | rfl | rfl | rfl | rfl | rfl | rfl | rfl | rfl | rfl | rfl | rfl | rfl | rfl | rfl | rfl | rfl | rfl | rfl
  all_goals
    cases h
    kernel_rfl
/-- A step in memory; nothing that came in has turned. -/
structure StA (w0 w : World) (b : Nat) (s : St) (F : Value) : Prop where
  blk : Blk w b 25 (stC s F)
  fl : FailsAt w w0.heap.size F s.fails
  be : Below w0.heap.size w0 w
  ge : w0.heap.size ≤ b
theorem StA.box {w : World} {s : St} {F : Value} (h : FailsAt w w.heap.size F s.fails) : StA w (w.alloc (.cells (stC s F) 25)) w.heap.size s F := by
  have hb := (Below.refl w.heap.size w).alloc (Nat.le_refl _) (.cells (stC s F) 25)
  obtain ⟨A, c, e, hr⟩ := h
  exact ⟨Blk.new _ _ _, ⟨A, c, e, hr.below hb⟩, hb, Nat.le_refl _⟩
theorem StA.only {S : Nat → Prop} {w0 w w' : World} {b : Nat} {s : St} {F : Value} (h : StA w0 w b s F) (ho : Only S w w') (hS : ∀ k, S k → w0.heap.size ≤ k) (hb : ¬ S b) : StA w0 w' b s F := by
  obtain ⟨A, c, e, hr⟩ := h.fl
  exact ⟨h.blk.only ho hb, ⟨A, c, e, hr.only ho h.be.size hS⟩, h.be.trans (ho.to_below hS h.be.size), h.ge⟩
theorem StA.below {w0 w w' : World} {b : Nat} {s : St} {F : Value} (h : StA w0 w b s F) (hb : Below w.heap.size w w') : StA w0 w' b s F := h.only (S := fun _ => False) (only_fresh hb) (fun _ h => h.elim) id
theorem StA.fl' {w0 w : World} {b : Nat} {s : St} {F : Value} (h : StA w0 w b s F) : FailsAt w w.heap.size F s.fails := by
  obtain ⟨A, c, e, hr⟩ := h.fl
  exact ⟨A, c, e, hr.more h.be.size⟩
theorem StA.cells {w0 w' : World} {b : Nat} {s : St} {F : Value} (h : StA w0 w' b s F) : w'.cell? ⟨b, 0, none⟩ = some (.int .i64 s.kind) ∧ w'.cell? ⟨b, 1, none⟩ = some (.int .i64 s.guest) ∧ w'.cell? ⟨b, 2, none⟩ = some (.int .u64 s.addr) ∧ w'.cell? ⟨b, 3, none⟩ = some (.int .i64 s.size) ∧ w'.cell? ⟨b, 4, none⟩ = some (.int .u64 s.value) ∧ w'.cell? ⟨b, 5, none⟩ = some (.int .i64 s.page) ∧ w'.cell? ⟨b, 6, none⟩ = some (.bool s.on) ∧ w'.cell? ⟨b, 7, none⟩ = some (.int .i64 s.asid) ∧ w'.cell? ⟨b, 8, none⟩ = some (.int .i64 s.what) ∧ w'.cell? ⟨b, 9, none⟩ = some (.int .i64 s.set) ∧ w'.cell? ⟨b, 10, none⟩ = some (.int .i64 s.way) ∧ w'.cell? ⟨b, 11, none⟩ = some (F) :=
  ⟨(h.blk.cell 0).trans rfl, (h.blk.cell 1).trans rfl, (h.blk.cell 2).trans rfl, (h.blk.cell 3).trans rfl, (h.blk.cell 4).trans rfl, (h.blk.cell 5).trans rfl, (h.blk.cell 6).trans rfl, (h.blk.cell 7).trans rfl, (h.blk.cell 8).trans rfl, (h.blk.cell 9).trans rfl, (h.blk.cell 10).trans rfl, (h.blk.cell 11).trans rfl⟩
theorem stC_cells {w' : World} {b : Nat} {s : St} {F : Value} (h : Blk w' b 25 (stC s F)) : w'.cell? ⟨b, 0, none⟩ = some (.int .i64 s.kind) ∧ w'.cell? ⟨b, 1, none⟩ = some (.int .i64 s.guest) ∧ w'.cell? ⟨b, 2, none⟩ = some (.int .u64 s.addr) ∧ w'.cell? ⟨b, 3, none⟩ = some (.int .i64 s.size) ∧ w'.cell? ⟨b, 4, none⟩ = some (.int .u64 s.value) ∧ w'.cell? ⟨b, 5, none⟩ = some (.int .i64 s.page) ∧ w'.cell? ⟨b, 6, none⟩ = some (.bool s.on) ∧ w'.cell? ⟨b, 7, none⟩ = some (.int .i64 s.asid) ∧ w'.cell? ⟨b, 8, none⟩ = some (.int .i64 s.what) ∧ w'.cell? ⟨b, 9, none⟩ = some (.int .i64 s.set) ∧ w'.cell? ⟨b, 10, none⟩ = some (.int .i64 s.way) ∧ w'.cell? ⟨b, 11, none⟩ = some (F) :=
  ⟨(h.cell 0).trans rfl, (h.cell 1).trans rfl, (h.cell 2).trans rfl, (h.cell 3).trans rfl, (h.cell 4).trans rfl, (h.cell 5).trans rfl, (h.cell 6).trans rfl, (h.cell 7).trans rfl, (h.cell 8).trans rfl, (h.cell 9).trans rfl, (h.cell 10).trans rfl, (h.cell 11).trans rfl⟩
/-- What Text's rounds carry. -/
structure TxS (w0 w : World) (b kb d : Nat) (s o : St) (F : Value) (w0s f : Bs) : Prop where
  st : StA w0 w b s F
  kk : Blk w kb 62 #[bv w0s, bv f]
  db : Blk w d 25 (stC o (.slice none 0 0))
  n1 : b < d
  n2 : kb < d
  n3 : w0.heap.size ≤ d
  env : Env w
  sz : 8 ≤ w0.heap.size
section
variable {w0 w w' : World} {b kb d : Nat} {s o o' : St} {F : Value} {w0s f : Bs}
theorem TxS.below (h : TxS w0 w b kb d s o F w0s f) (hb : Below w.heap.size w w') : TxS w0 w' b kb d s o F w0s f :=
  ⟨h.st.below hb, h.kk.below hb h.kk.lt, h.db.below hb h.db.lt, h.n1, h.n2, h.n3, h.env.below hb, h.sz⟩
theorem TxS.put (h : TxS w0 w b kb d s o F w0s f) (ho : Only (fun g => g = d) w w') (hd : Blk w' d 25 (stC o' (.slice none 0 0))) : TxS w0 w' b kb d s o' F w0s f :=
  ⟨h.st.only ho (fun k hk => by subst hk; exact h.n3) (fun e => by have := h.n1; omega), h.kk.only ho (fun e => by have := h.n2; omega), hd, h.n1, h.n2, h.n3, h.env.only ho (fun k hk e => by have := h.n3; have := h.sz; omega), h.sz⟩
theorem TxS.far (h : TxS w0 w b kb d s o F w0s f) (ho : Only (fun g => d + 1 ≤ g) w w') : TxS w0 w' b kb d s o F w0s f :=
  ⟨h.st.only ho (fun k hk => by have := h.n3; omega) (fun e => by have := h.n1; omega), h.kk.only ho (fun e => by have := h.n2; omega), h.db.only ho (fun e => by omega), h.n1, h.n2, h.n3, h.env.only ho (fun k hk e => by have := h.n3; have := h.sz; omega), h.sz⟩
end
def TxR (w : World) (b kb d : Nat) (s : St) (F : Value) (w0s f : Bs) (fs : List Fd) (v6 vi : Value) (wr : World) : Prop := ∃ (i : Nat) (ws : List Bs), vi = .int .i64 i ∧ i ≤ fs.length ∧ wrds s (fs.take i) = some ws ∧ TxS w wr b kb d s ((fs.take i).foldl (put1 s) { kind := s.kind }) F w0s f ∧ wr.ownsRow (d + 1) 9 1 v6 (w0s :: ws).length ((w0s :: ws).map bv)
theorem join_len {s : St} (hs : s.wf) : ∀ {fs : List Fd} {ws : List Bs}, wrds s fs = some ws → ∀ w0 : Bs, (join (w0 :: ws) [32]).length ≤ w0.length + fs.length * (21 + s.fails.length)
  | [], ws, h, w0 => by injection h with h; subst h; rw [join_one]; omega
  | c :: fs, ws, h, w0 => by
    unfold wrds at h
    cases h1 : wrd s c with
    | none => rw [h1] at h; cases h
    | some w =>
      rw [h1] at h
      dsimp only at h
      cases h2 : wrds s fs with
      | none => rw [h2] at h; cases h
      | some ws' =>
        rw [h2] at h
        dsimp only at h
        injection h with h; subst h
        have h3 := join_len hs h2 w
        have h4 := wrd_len hs h1
        have e : join (w0 :: w :: ws') [32] = w0 ++ 32 :: join (w :: ws') [32] := by
          rw [join_cons, join_cons, joinTail_cons]; simp
        rw [e, List.length_append, List.length_cons, List.length_cons, Nat.succ_mul]
        omega
theorem infoS : (Tryd.prog.info? 9).map (fun i => (i.zero, i.size, i.bytes)) = some (some (.string ⟨#[]⟩), 1, 16) := by kernel_rfl
set_option maxRecDepth 20000 in
set_option maxHeartbeats 8000000 in
theorem ltext (s : St) (hs : s.ok) (F : Value) {w : World} (he : Env w) (hf : FailsAt w w.heap.size F s.fails) (hl : s.fails.length ≤ 1000000) :
    Calls Tryd.prog 11 #[.agg (stC s F)] w (TextIs s w) := by
  obtain ⟨A, cc, rfl, hr⟩ := hf
  have hf : FailsAt w w.heap.size (.slice A s.fails.length cc) s.fails := ⟨A, cc, rfl, hr⟩
  clear hr
  obtain ⟨i0, hi0, hz0', hz1, hz2⟩ := info_parts infoS
  have HP := Lib.hid (StA.box hf)
  by_cases hk : s.kind < 1 ∨ 32 < s.kind
  · have HT := Lib.hid (textS_out hk)
    have e0 := HP.out.cells.1
    have hbx := HP.out.be
    clear HP hf
    unfold stC at e0 hbx ⊢
    rcases (show s.kind < 1 ∨ (¬ s.kind < 1 ∧ s.kind > 32) by omega) with hk1 | ⟨hk1, hk2⟩
    · have q1 : decide (s.kind < 1) = true := by simpa using hk1
      clear hk hk1
      go_enter Tryd.func11, Tryd.ntmps11
      go_wp2
      go_ret2
      exact ⟨by rw [HT.out]; rfl, hbx⟩
    · have q1 : decide (s.kind < 1) = false := by simpa using hk1
      have q2 : decide (s.kind > 32) = true := by simpa using hk2
      clear hk hk1 hk2
      go_enter Tryd.func11, Tryd.ntmps11
      go_wp2
      go_ret2
      exact ⟨by rw [HT.out]; rfl, hbx⟩
  · obtain ⟨n, hn⟩ : ∃ n : Nat, s.kind = n := ⟨s.kind.toNat, by omega⟩
    have h1 : 1 ≤ n := by omega
    have h2 : n ≤ 32 := by omega
    obtain ⟨w0s, fs, hkd, _, _, hwl, hfl⟩ := kd_at h1 h2
    have HIX := Lib.hid (fun w => (show (Instr.index 63 kindsV (.int .i64 s.kind)).run Tryd.prog w = .ok (.agg #[bv w0s, bv (fs.map pcd)]) w from by rw [hn]; exact lkix h1 h2 hkd w))
    have HK := Lib.hid (show s.kind = n ∧ 1 ≤ n ∧ n ≤ 32 ∧ kdT[n]? = some (w0s, fs) from ⟨hn, h1, h2, hkd⟩)
    have HE := Lib.hid (he.below HP.out.be)
    have HZ := Lib.hid he.size
    obtain ⟨f, hf9⟩ : ∃ f, fs.map pcd = f := ⟨_, rfl⟩
    rw [hf9] at HIX
    have hix := HIX.out
    have hfm5 : f.length = fs.length := by rw [← hf9, List.length_map]
    obtain ⟨m, hm⟩ : ∃ m, fs.length = m := ⟨_, rfl⟩
    have HM := Lib.hid hm
    rw [hm] at hfl hfm5
    have HFG := Lib.hid (fun i c (h : fs[i]? = some c) (hi : i < f.length) => (show f[i] = pcd c from by
      have : f[i]? = some (pcd c) := by rw [← hf9, List.getElem?_map, h]; rfl
      rw [List.getElem?_eq_getElem hi] at this
      exact Option.some.inj this))
    have q1 : decide (s.kind < 1) = false := by simp; omega
    have q2 : decide (s.kind > 32) = false := by simp; omega
    have HL := Lib.hid hl
    clear hn h1 h2 hkd hk hm hf9 hl he hf HIX
    have e0 := HP.out.cells.1
    unfold stC at HP HE e0 ⊢
    go_enter Tryd.func11, Tryd.ntmps11
    go_upto_region 3 with fail
    refine wp_region_held_drew (S := (fun w' => w'.cell? ⟨w.heap.size, 0, none⟩ = some (.int .i64 s.kind))) (by kernel_rfl) ?_ (fun hHeld => ?_)
    · exact e0
    clear e0 q1 q2
    replace HP := Lib.hid (HP.out.below (Below.refl _ _).drew)
    replace HE := Lib.hid (HE.out.below (Below.refl _ _).drew)
    unfold stC at HP
    generalize (w.alloc _).drew = wc at *
    ((refine takeY 1 (v := ?_) rfl (by kernel_rfl) (by kernel_rfl) (by kernel_rfl) (fun _ _ _ h => h) (by rfl) (by assumption) ?_ ?_; rotate_left; · (intro w hSw; (try dsimp only at hSw); go_simp; (first | done | with_reducible rfl))))
    (try simp only [Act.put, List.setIfInBounds_toArray, List.set_cons_zero, List.set_cons_succ])
    ((refine takeY 2 (v := ?_) rfl (by kernel_rfl) (by kernel_rfl) (by kernel_rfl) (fun _ _ _ h => h) (by rfl) (by assumption) ?_ ?_; rotate_left; · (intro w hSw; (try dsimp only at hSw); go_simp; (first | done | with_reducible rfl))))
    (try simp only [Act.put, List.setIfInBounds_toArray, List.set_cons_zero, List.set_cons_succ])
    refine wpAnyH_ready (rs := [0, 4]) (by kernel_rfl) (by simp) ?_
    refine consH 0 rfl (by rfl) (fun K hK => ?_) (consH 4 rfl (by rfl) (fun K hK => ?_) (AllReadyH.nil))
    · go_simp
      refine (lkinds _).mono ?_; rintro e wn ⟨rfl, hb⟩
      replace HP := Lib.hid (HP.out.below hb)
      replace HE := Lib.hid (HE.out.below hb)
      clear hb
      (refine hK.out _ _ ?_ (fun hHeld => ?_))
      · exact HP.out.cells.1
      clear hK K
      obtain ⟨wc, rfl⟩ : ∃ x : World, x = wn := ⟨_, rfl⟩
      ((refine takeY 3 (v := ?_) rfl (by kernel_rfl) (by kernel_rfl) (by kernel_rfl) (fun _ _ _ h => h) (by rfl) (by assumption) ?_ ?_; rotate_left; · (intro w hSw; (try dsimp only at hSw); go_simp; (first | done | with_reducible rfl))))
      (try simp only [Act.put, List.setIfInBounds_toArray, List.set_cons_zero, List.set_cons_succ])
      refine stepH 4 rfl (by kernel_rfl) (by rfl) (fun K hK => ?_)
      go_simp
      have HPL := Lib.hid HP.out.blk.lt
      have HKB := Lib.hid (Blk.new wc 62 #[.string ⟨#[]⟩, .string ⟨#[]⟩])
      replace HP := Lib.hid (HP.out.below ((Below.refl _ _).alloc (Nat.le_refl _) (.cells #[.string ⟨#[]⟩, .string ⟨#[]⟩] 62)))
      replace HE := Lib.hid (HE.out.below ((Below.refl _ _).alloc (Nat.le_refl _) (.cells #[.string ⟨#[]⟩, .string ⟨#[]⟩] 62)))
      (refine hK.out _ _ ?_ (fun hHeld => ?_))
      · exact HP.out.cells.1
      clear hK K
      have HKG := Lib.hid (show w.heap.size < wc.heap.size from HPL.out)
      clear HPL
      obtain ⟨wc2, hw2⟩ : ∃ x : World, wc.alloc (.cells #[.string ⟨#[]⟩, .string ⟨#[]⟩] 62) = x := ⟨_, rfl⟩
      rw [hw2] at HKB HP HE hHeld
      rw [hw2]
      clear hw2
      generalize wc.heap.size = kb at *
      obtain ⟨wc, rfl⟩ : ∃ x : World, x = wc2 := ⟨_, rfl⟩
      have hk0 := (HKB.out.cell 0).trans rfl
      have hk1 := (HKB.out.cell 1).trans rfl
      have hg0 := HKB.out.frozen 0
      have hg1 := HKB.out.frozen 1
      refine stepH 5 rfl (by kernel_rfl) (by rfl) (fun K hK => ?_)
      go_simp
      clear hk0 hk1 hg0 hg1
      have ho := Only.setCell (S := fun g => g = kb) (Only.setCell (S := fun g => g = kb) (Only.refl _ wc) (p := ⟨kb, 0, none⟩) (.inl rfl) (bv w0s)) (p := ⟨kb, 1, none⟩) (.inl rfl) (bv f)
      replace HKB := Lib.hid (show Blk _ kb 62 #[bv w0s, bv f] from (HKB.out.set_ 0 (bv w0s)).set_ 1 (bv f))
      replace HE := Lib.hid (HE.out.only ho (fun g hg e => by have := HKG.out; have := HZ.out; omega))
      replace HP := Lib.hid (HP.out.only ho (fun g e => by have := HKG.out; omega) (fun e => by have := HKG.out; omega))
      clear ho
      (refine hK.out _ _ ?_ (fun hHeld => ?_))
      · exact HP.out.cells.1
      clear hK K
      generalize (wc.setCell ⟨kb, 0, none⟩ (bv w0s)).setCell ⟨kb, 1, none⟩ (bv f) = w5 at *
      refine wpAnyH_done (by kernel_rfl) ?_ _
      clear hHeld
      have e0 := HP.out.cells.1
      go_upto_region 5 with fail
      have hbx := (Below.refl w5.heap.size w5).alloc (Nat.le_refl _) (.cells #[.int .i64 s.kind, .int .i64 0, .int .u64 0, .int .i64 0, .int .u64 0, .int .i64 0, .bool false, .int .i64 0, .int .i64 0, .int .i64 0, .int .i64 0, .slice none 0 0] 25)
      have HX := Lib.hid (show TxS w (w5.alloc (.cells #[.int .i64 s.kind, .int .i64 0, .int .u64 0, .int .i64 0, .int .u64 0, .int .i64 0, .bool false, .int .i64 0, .int .i64 0, .int .i64 0, .int .i64 0, .slice none 0 0] 25)) w.heap.size kb w5.heap.size s { kind := s.kind } (.slice A s.fails.length cc) w0s f from ⟨HP.out.below hbx, HKB.out.below hbx HKB.out.lt, Blk.new _ _ _, HP.out.blk.lt, HKB.out.lt, HP.out.be.size, HE.out.below hbx, HZ.out⟩)
      have HDL := Lib.hid (show w5.heap.size < (w5.alloc (.cells #[.int .i64 s.kind, .int .i64 0, .int .u64 0, .int .i64 0, .int .u64 0, .int .i64 0, .bool false, .int .i64 0, .int .i64 0, .int .i64 0, .int .i64 0, .slice none 0 0] 25)).heap.size from by simp)
      clear hbx e0 HP HKB HE HKG hix
      generalize w5.alloc (.cells #[.int .i64 s.kind, .int .i64 0, .int .u64 0, .int .i64 0, .int .u64 0, .int .i64 0, .bool false, .int .i64 0, .int .i64 0, .int .i64 0, .int .i64 0, .slice none 0 0] 25) = w6 at *
      generalize w5.heap.size = d at *
      have k0 := (HX.out.kk.cell 0).trans rfl
      go_upto_region 6 with fail
      have hbx := (Below.refl w6.heap.size w6).alloc (Nat.le_refl _) (.cells #[bv w0s] 9)
      have HW := Lib.hid (show (w6.alloc (.cells #[bv w0s] 9)).ownsRow (d + 1) 9 1 (.slice (some ⟨w6.heap.size, 0, none⟩) 1 1) 1 [bv w0s] from ⟨rfl, .inr ⟨w6.heap.size, 1, #[bv w0s], rfl, HDL.out, heap_alloc_new w6 _, Nat.le_refl _, by unfold maxLen; omega, rfl, rfl⟩⟩)
      replace HX := Lib.hid (HX.out.below hbx)
      clear hbx k0 HDL
      generalize w6.alloc (.cells #[bv w0s] 9) = w7 at *
      have k1 := (HX.out.kk.cell 1).trans rfl
      go_wp2_with fail
      clear k1
      go_loopw [6, 31] (TxR w w.heap.size kb d s (.slice A s.fails.length cc) w0s f fs) (fun _ v _ => m - cntZ v)
      case atStart => exact ⟨0, [], rfl, Nat.zero_le _, rfl, HX.out, HW.out⟩
      case round =>
        clear HX HW
        obtain ⟨i, ws, rfl, hi, hws, hX, hW⟩ := hrel
        have HX := Lib.hid hX
        have HW := Lib.hid hW
        have HWS := Lib.hid hws
        clear hX hW hws
        have him : i ≤ m := by rw [← HM.out]; exact hi
        clear hi
        by_cases hin : i < m
        · have g1 : decide ((i : Int) < (m : Int)) = true := by simp; exact hin
          have g1' : decide (i < m) = true := by simp; exact hin
          obtain ⟨c, hc⟩ : ∃ c, fs[i]? = some c := ⟨_, List.getElem?_eq_getElem (by rw [HM.out]; exact hin)⟩
          have HC := Lib.hid hc
          have hsz : i < (⟨f.toArray⟩ : ByteArray).size := (show i < f.length by omega)
          have HXB := Lib.hid (show (⟨f.toArray⟩ : ByteArray)[i]'hsz = pcd c from HFG.out i c hc (by omega))
          clear hc
          have k1 := (HX.out.kk.cell 1).trans rfl
          go_upto_region 9 with fail
          refine wp_region_held_drew (S := (fun w' => (w'.cell? ⟨w.heap.size, 0, none⟩ = some (.int .i64 s.kind) ∧ w'.cell? ⟨w.heap.size, 1, none⟩ = some (.int .i64 s.guest) ∧ w'.cell? ⟨w.heap.size, 2, none⟩ = some (.int .u64 s.addr) ∧ w'.cell? ⟨w.heap.size, 3, none⟩ = some (.int .i64 s.size) ∧ w'.cell? ⟨w.heap.size, 4, none⟩ = some (.int .u64 s.value) ∧ w'.cell? ⟨w.heap.size, 5, none⟩ = some (.int .i64 s.page) ∧ w'.cell? ⟨w.heap.size, 6, none⟩ = some (.bool s.on) ∧ w'.cell? ⟨w.heap.size, 7, none⟩ = some (.int .i64 s.asid) ∧ w'.cell? ⟨w.heap.size, 8, none⟩ = some (.int .i64 s.what) ∧ w'.cell? ⟨w.heap.size, 9, none⟩ = some (.int .i64 s.set) ∧ w'.cell? ⟨w.heap.size, 10, none⟩ = some (.int .i64 s.way) ∧ w'.cell? ⟨w.heap.size, 11, none⟩ = some (.slice A s.fails.length cc)) ∧ w'.cell? ⟨kb, 1, none⟩ = some (bv f))) (by kernel_rfl) ?_ (fun hHeld => ?_)
          · exact ⟨HX.out.st.cells, k1⟩
          clear k1
          replace HX := Lib.hid (HX.out.below (Below.refl _ _).drew)
          replace HW := Lib.hid (own_below HW.out (Below.refl _ _).drew)
          generalize wr.drew = wv at *
          ((refine takeY 0 (v := ?_) rfl (by kernel_rfl) (by kernel_rfl) (by kernel_rfl) (fun _ _ _ h => h) (by rfl) (by assumption) ?_ ?_; rotate_left; · (intro w hSw; (try dsimp only at hSw); go_simp; (first | done | with_reducible rfl))))
          (try simp only [Act.put, List.setIfInBounds_toArray, List.set_cons_zero, List.set_cons_succ])
          ((refine takeY 1 (v := ?_) rfl (by kernel_rfl) (by kernel_rfl) (by kernel_rfl) (fun _ _ _ h => h) (by rfl) (by assumption) ?_ ?_; rotate_left; · (intro w hSw; (try dsimp only at hSw); go_simp; (first | done | with_reducible rfl))))
          (try simp only [Act.put, List.setIfInBounds_toArray, List.set_cons_zero, List.set_cons_succ])
          ((refine takeY 2 (v := ?_) rfl (by kernel_rfl) (by kernel_rfl) (by kernel_rfl) (fun _ _ _ h => h) (by rfl) (by assumption) ?_ ?_; rotate_left; · (intro w hSw; (try dsimp only at hSw); go_simp; (first | done | with_reducible rfl))))
          (try simp only [Act.put, List.setIfInBounds_toArray, List.set_cons_zero, List.set_cons_succ])
          ((refine takeY 3 (v := ?_) rfl (by kernel_rfl) (by kernel_rfl) (by kernel_rfl) (fun _ _ _ h => h) (by rfl) (by assumption) ?_ ?_; rotate_left; · (intro w hSw; (try dsimp only at hSw); go_simp; (first | done | with_reducible rfl))))
          (try simp only [Act.put, List.setIfInBounds_toArray, List.set_cons_zero, List.set_cons_succ])
          ((refine takeY 4 (v := ?_) rfl (by kernel_rfl) (by kernel_rfl) (by kernel_rfl) (fun _ _ _ h => h) (by rfl) (by assumption) ?_ ?_; rotate_left; · (intro w hSw; (try dsimp only at hSw); go_simp; (first | done | with_reducible rfl))))
          (try simp only [Act.put, List.setIfInBounds_toArray, List.set_cons_zero, List.set_cons_succ])
          refine stepH 5 rfl (by kernel_rfl) (by rfl) (fun K hK => ?_)
          go_simp
          rw [HXB.out]
          refine (lput s _ hs c _ d (by have := HX.out.n3; have := HX.out.sz; omega) (.slice none 0 0) HX.out.env HX.out.st.fl' HL.out HX.out.db).mono ?_; rintro e wn ⟨x, ok, rfl, hwd, hbd, ho⟩
          have HWD := Lib.hid hwd
          replace HW := Lib.hid (own_only HW.out ho (fun k hk => by omega))
          replace HX := Lib.hid (HX.out.put ho hbd)
          clear hwd hbd ho
          (refine hK.out _ _ ?_ (fun hHeld => ?_))
          · exact ⟨HX.out.st.cells, (HX.out.kk.cell 1).trans rfl⟩
          clear hK K
          ((refine takeY 6 (v := ?_) rfl (by kernel_rfl) (by kernel_rfl) (by kernel_rfl) (fun _ _ _ h => h) (by rfl) (by assumption) ?_ ?_; rotate_left; · (intro w hSw; (try dsimp only at hSw); go_simp; (first | done | with_reducible rfl))))
          (try simp only [Act.put, List.setIfInBounds_toArray, List.set_cons_zero, List.set_cons_succ])
          ((refine takeY 7 (v := ?_) rfl (by kernel_rfl) (by kernel_rfl) (by kernel_rfl) (fun _ _ _ h => h) (by rfl) (by assumption) ?_ ?_; rotate_left; · (intro w hSw; (try dsimp only at hSw); go_simp; (first | done | with_reducible rfl))))
          (try simp only [Act.put, List.setIfInBounds_toArray, List.set_cons_zero, List.set_cons_succ])
          ((refine takeY 8 (v := ?_) rfl (by kernel_rfl) (by kernel_rfl) (by kernel_rfl) (fun _ _ _ h => h) (by rfl) (by assumption) ?_ ?_; rotate_left; · (intro w hSw; (try dsimp only at hSw); go_simp; (first | done | with_reducible rfl))))
          (try simp only [Act.put, List.setIfInBounds_toArray, List.set_cons_zero, List.set_cons_succ])
          ((refine takeY 9 (v := ?_) rfl (by kernel_rfl) (by kernel_rfl) (by kernel_rfl) (fun _ _ _ h => h) (by rfl) (by assumption) ?_ ?_; rotate_left; · (intro w hSw; (try dsimp only at hSw); go_simp; (first | done | with_reducible rfl))))
          (try simp only [Act.put, List.setIfInBounds_toArray, List.set_cons_zero, List.set_cons_succ])
          ((refine takeY 10 (v := ?_) rfl (by kernel_rfl) (by kernel_rfl) (by kernel_rfl) (fun _ _ _ h => h) (by rfl) (by assumption) ?_ ?_; rotate_left; · (intro w hSw; (try dsimp only at hSw); go_simp; (first | done | with_reducible rfl))))
          (try simp only [Act.put, List.setIfInBounds_toArray, List.set_cons_zero, List.set_cons_succ])
          refine wpAnyH_done (by kernel_rfl) ?_ _
          clear hHeld
          cases ok with
          | false =>
            have HTN := Lib.hid (show TextS s = ([], 1) from by obtain ⟨k1, k2, k3, k4⟩ := HK.out; exact textS_none k1 k2 k3 k4 (wrds_none HC.out HWD.out))
            go_wp2
            go_ret2
            exact ⟨by rw [HTN.out]; rfl, HX.out.st.be⟩
          | true =>
            have hbx := (Below.refl wn.heap.size wn).alloc (Nat.le_refl _) (.cells #[bv x] 9)
            have HX2 := Lib.hid (HX.out.below hbx)
            have hsz9 : d + 1 ≤ wn.heap.size := HX.out.db.lt
            have hwl9 := wrds_len HWS.out
            rw [List.length_take, HM.out] at hwl9
            clear hbx
            go_wp2_with (first
              | (at_builtin; refine wpList_append_any _ rfl (.tmp 45) (.tmp 47) _ rfl (d + 1) 9 i0 _ 1 16 Tryd.underlying36 hi0 hz0' hz1 hz2 rfl (by omega) u6 _ _ rfl (HW.out.alloc _) _ (some ⟨wn.heap.size, 0, none⟩) 1 1 [bv x] rfl (reads_one1 wn _ _) (by simp; rfl) (by unfold maxLen; simp only [List.length_cons]; omega) (by simp only [List.length_cons]; omega) (by simp; omega) ?_; intro v2 w4 hown2 hg4 hat4)
              | fail)
            refine ⟨⟨i + 1, ws ++ [x], by go_num, by rw [HM.out]; omega, by rw [wrds_snoc HC.out HWS.out, HWD.out]; rfl, ?_, ?_⟩, cntZ_lt hin⟩
            · have e9 : (fs.take (i + 1)).foldl (put1 s) { kind := s.kind } = put1 s ((fs.take i).foldl (put1 s) { kind := s.kind }) c := by
                obtain ⟨hl9, e8⟩ := List.getElem?_eq_some_iff.1 HC.out
                rw [List.take_succ_eq_append_getElem hl9, List.foldl_append, e8]; rfl
              rw [e9]
              exact HX2.out.far (Only.grown (Only.refl _ _) hg4 (fun g e => .inl ((HW.out.lt g e).1)))
            · have e9 : (w0s :: (ws ++ [x])).map bv = (w0s :: ws).map bv ++ [bv x] := by simp
              rw [e9, show (w0s :: (ws ++ [x])).length = (w0s :: ws).length + 1 from by simp]
              exact hown2
        · obtain rfl : i = m := by omega
          have g1 : decide ((i : Int) < (i : Int)) = false := by simp
          have hti : fs.take i = fs := List.take_of_length_le (by rw [HM.out]; exact Nat.le_refl _)
          rw [hti] at HWS HX
          clear hti
          have HMS := Lib.hid (show fs.foldl (put1 s) { kind := s.kind } = maskS s fs from rfl)
          rw [HMS.out] at HX
          obtain ⟨o, ho⟩ : ∃ o, maskS s fs = o := ⟨_, rfl⟩
          have HOO := Lib.hid ho
          rw [ho] at HX
          clear ho HMS
          have cs1 := HX.out.st.cells
          have cs2 := stC_cells HX.out.db
          go_wp2_with fail
          refine (lsame s o _ (.slice none 0 0) _).mono ?_; rintro e w8 ⟨rfl, hb⟩
          replace HX := Lib.hid (HX.out.below hb)
          replace HW := Lib.hid (own_below HW.out hb)
          clear hb cs1 cs2
          have cs1 := HX.out.st.cells
          obtain ⟨sb, hsb⟩ : ∃ b, sameB s o = b := ⟨_, rfl⟩
          have HSB := Lib.hid hsb
          rw [hsb]
          clear hsb
          cases sb with
          | false =>
            have HT := Lib.hid (show TextS s = ([], 1) from by
              obtain ⟨k1, k2, k3, k4⟩ := HK.out
              refine textS_bad k1 k2 k3 k4 (fun h => ?_)
              have h9 := (sameB_iff s o).2 (by rw [← HOO.out]; exact h.1)
              rw [HSB.out] at h9
              cases h9)
            go_wp2
            go_ret2
            exact ⟨by rw [HT.out]; rfl, HX.out.st.be⟩
          | true =>
            have HSM := Lib.hid (show Same1 s (maskS s fs) from by rw [HOO.out]; exact (sameB_iff s o).1 HSB.out)
            by_cases h31 : s.kind = 31
            · have q1 : (s.kind != 31) = false := by rw [h31]; rfl
              have HR := Lib.hid (show Same1 s (maskS s fs) ∧ (n = 31 ∨ s.fails = []) from ⟨HSM.out, .inl (by have := HK.out.1; omega)⟩)
              clear h31
              by_cases hbig : 1000 < s.fails.length
              · have q3 : decide ((s.fails.length : Int) > 1000) = true := by simp; omega
                have q3' : decide (1000 < s.fails.length) = true := by simp; omega
                have HT := Lib.hid (show TextS s = ([], 2) from by
                  obtain ⟨k1, k2, k3, k4⟩ := HK.out
                  rw [textS_some k1 k2 k3 k4 HWS.out HR.out, if_pos hbig])
                go_wp2
                go_ret2
                exact ⟨by rw [HT.out]; rfl, HX.out.st.be⟩
              · have q3 : decide ((s.fails.length : Int) > 1000) = false := by simp; omega
                have q3' : decide (1000 < s.fails.length) = false := by simp; omega
                have HT := Lib.hid (show TextS s = (join (w0s :: ws) [32], 0) from by
                  obtain ⟨k1, k2, k3, k4⟩ := HK.out
                  rw [textS_some k1 k2 k3 k4 HWS.out HR.out, if_neg hbig])
                have hjl := join_len hs.towf HWS.out w0s
                have hwl9 := wrds_len HWS.out
                rw [HM.out] at hjl hwl9
                have hjb : (join (w0s :: ws) [32]).length ≤ 140737488355328 := by
                  have : i * (21 + s.fails.length) ≤ 5 * (21 + s.fails.length) := Nat.mul_le_mul_right _ hfl
                  omega
                go_wp2_with fail
                refine (ljoin (ownsRow_mono HW.out (Nat.zero_le _)) (by simp only [List.length_cons]; omega) hjb).mono ?_; rintro e w9 ⟨rfl, hb⟩
                go_wp2
                go_ret2
                exact ⟨by rw [HT.out]; rfl, HX.out.st.be.trans (hb.mono HX.out.st.be.size)⟩
            · have q1 : (s.kind != 31) = true := by simp; exact h31
              by_cases h0 : 0 < s.fails.length
              · have q2 : decide ((s.fails.length : Int) > 0) = true := decide_eq_true (by omega)
                have q2' : decide (0 < s.fails.length) = true := decide_eq_true h0
                have HT := Lib.hid (show TextS s = ([], 1) from by
                  obtain ⟨k1, k2, k3, k4⟩ := HK.out
                  refine textS_bad k1 k2 k3 k4 (fun h => ?_)
                  rcases h.2 with e | e
                  · exact h31 (by omega)
                  · rw [e] at h0; simp at h0)
                go_wp2
                go_ret2
                exact ⟨by rw [HT.out]; rfl, HX.out.st.be⟩
              · have q2 : decide ((s.fails.length : Int) > 0) = false := decide_eq_false (by omega)
                have q2' : decide (0 < s.fails.length) = false := decide_eq_false h0
                have HR := Lib.hid (show Same1 s (maskS s fs) ∧ (n = 31 ∨ s.fails = []) from ⟨HSM.out, .inr (List.eq_nil_of_length_eq_zero (by omega))⟩)
                clear h31 h0
                by_cases hbig : 1000 < s.fails.length
                · have q3 : decide ((s.fails.length : Int) > 1000) = true := by simp; omega
                  have q3' : decide (1000 < s.fails.length) = true := by simp; omega
                  have HT := Lib.hid (show TextS s = ([], 2) from by
                    obtain ⟨k1, k2, k3, k4⟩ := HK.out
                    rw [textS_some k1 k2 k3 k4 HWS.out HR.out, if_pos hbig])
                  go_wp2
                  go_ret2
                  exact ⟨by rw [HT.out]; rfl, HX.out.st.be⟩
                · have q3 : decide ((s.fails.length : Int) > 1000) = false := by simp; omega
                  have q3' : decide (1000 < s.fails.length) = false := by simp; omega
                  have HT := Lib.hid (show TextS s = (join (w0s :: ws) [32], 0) from by
                    obtain ⟨k1, k2, k3, k4⟩ := HK.out
                    rw [textS_some k1 k2 k3 k4 HWS.out HR.out, if_neg hbig])
                  have hjl := join_len hs.towf HWS.out w0s
                  have hwl9 := wrds_len HWS.out
                  rw [HM.out] at hjl hwl9
                  have hjb : (join (w0s :: ws) [32]).length ≤ 140737488355328 := by
                    have : i * (21 + s.fails.length) ≤ 5 * (21 + s.fails.length) := Nat.mul_le_mul_right _ hfl
                    omega
                  go_wp2_with fail
                  refine (ljoin (ownsRow_mono HW.out (Nat.zero_le _)) (by simp only [List.length_cons]; omega) hjb).mono ?_; rintro e w9 ⟨rfl, hb⟩
                  go_wp2
                  go_ret2
                  exact ⟨by rw [HT.out]; rfl, HX.out.st.be.trans (hb.mono HX.out.st.be.size)⟩
    · go_simp
      have HPL := Lib.hid HP.out.blk.lt
      have HKB := Lib.hid (Blk.new wc 62 #[.string ⟨#[]⟩, .string ⟨#[]⟩])
      replace HP := Lib.hid (HP.out.below ((Below.refl _ _).alloc (Nat.le_refl _) (.cells #[.string ⟨#[]⟩, .string ⟨#[]⟩] 62)))
      replace HE := Lib.hid (HE.out.below ((Below.refl _ _).alloc (Nat.le_refl _) (.cells #[.string ⟨#[]⟩, .string ⟨#[]⟩] 62)))
      (refine hK.out _ _ ?_ (fun hHeld => ?_))
      · exact HP.out.cells.1
      clear hK K
      have HKG := Lib.hid (show w.heap.size < wc.heap.size from HPL.out)
      clear HPL
      obtain ⟨wc2, hw2⟩ : ∃ x : World, wc.alloc (.cells #[.string ⟨#[]⟩, .string ⟨#[]⟩] 62) = x := ⟨_, rfl⟩
      rw [hw2] at HKB HP HE hHeld
      rw [hw2]
      clear hw2
      generalize wc.heap.size = kb at *
      obtain ⟨wc, rfl⟩ : ∃ x : World, x = wc2 := ⟨_, rfl⟩
      have hk0 := (HKB.out.cell 0).trans rfl
      have hk1 := (HKB.out.cell 1).trans rfl
      have hg0 := HKB.out.frozen 0
      have hg1 := HKB.out.frozen 1
      refine stepH 0 rfl (by kernel_rfl) (by rfl) (fun K hK => ?_)
      go_simp
      refine (lkinds _).mono ?_; rintro e wn ⟨rfl, hb⟩
      replace HP := Lib.hid (HP.out.below hb)
      replace HE := Lib.hid (HE.out.below hb)
      replace HKB := Lib.hid (HKB.out.below hb HKB.out.lt)
      clear hk0 hk1 hg0 hg1
      clear hb
      (refine hK.out _ _ ?_ (fun hHeld => ?_))
      · exact HP.out.cells.1
      clear hK K
      obtain ⟨wc, rfl⟩ : ∃ x : World, x = wn := ⟨_, rfl⟩
      have hk0 := (HKB.out.cell 0).trans rfl
      have hk1 := (HKB.out.cell 1).trans rfl
      have hg0 := HKB.out.frozen 0
      have hg1 := HKB.out.frozen 1
      ((refine takeY 3 (v := ?_) rfl (by kernel_rfl) (by kernel_rfl) (by kernel_rfl) (fun _ _ _ h => h) (by rfl) (by assumption) ?_ ?_; rotate_left; · (intro w hSw; (try dsimp only at hSw); go_simp; (first | done | with_reducible rfl))))
      (try simp only [Act.put, List.setIfInBounds_toArray, List.set_cons_zero, List.set_cons_succ])
      refine stepH 5 rfl (by kernel_rfl) (by rfl) (fun K hK => ?_)
      go_simp
      clear hk0 hk1 hg0 hg1
      have ho := Only.setCell (S := fun g => g = kb) (Only.setCell (S := fun g => g = kb) (Only.refl _ wc) (p := ⟨kb, 0, none⟩) (.inl rfl) (bv w0s)) (p := ⟨kb, 1, none⟩) (.inl rfl) (bv f)
      replace HKB := Lib.hid (show Blk _ kb 62 #[bv w0s, bv f] from (HKB.out.set_ 0 (bv w0s)).set_ 1 (bv f))
      replace HE := Lib.hid (HE.out.only ho (fun g hg e => by have := HKG.out; have := HZ.out; omega))
      replace HP := Lib.hid (HP.out.only ho (fun g e => by have := HKG.out; omega) (fun e => by have := HKG.out; omega))
      clear ho
      (refine hK.out _ _ ?_ (fun hHeld => ?_))
      · exact HP.out.cells.1
      clear hK K
      generalize (wc.setCell ⟨kb, 0, none⟩ (bv w0s)).setCell ⟨kb, 1, none⟩ (bv f) = w5 at *
      refine wpAnyH_done (by kernel_rfl) ?_ _
      clear hHeld
      have e0 := HP.out.cells.1
      go_upto_region 5 with fail
      have hbx := (Below.refl w5.heap.size w5).alloc (Nat.le_refl _) (.cells #[.int .i64 s.kind, .int .i64 0, .int .u64 0, .int .i64 0, .int .u64 0, .int .i64 0, .bool false, .int .i64 0, .int .i64 0, .int .i64 0, .int .i64 0, .slice none 0 0] 25)
      have HX := Lib.hid (show TxS w (w5.alloc (.cells #[.int .i64 s.kind, .int .i64 0, .int .u64 0, .int .i64 0, .int .u64 0, .int .i64 0, .bool false, .int .i64 0, .int .i64 0, .int .i64 0, .int .i64 0, .slice none 0 0] 25)) w.heap.size kb w5.heap.size s { kind := s.kind } (.slice A s.fails.length cc) w0s f from ⟨HP.out.below hbx, HKB.out.below hbx HKB.out.lt, Blk.new _ _ _, HP.out.blk.lt, HKB.out.lt, HP.out.be.size, HE.out.below hbx, HZ.out⟩)
      have HDL := Lib.hid (show w5.heap.size < (w5.alloc (.cells #[.int .i64 s.kind, .int .i64 0, .int .u64 0, .int .i64 0, .int .u64 0, .int .i64 0, .bool false, .int .i64 0, .int .i64 0, .int .i64 0, .int .i64 0, .slice none 0 0] 25)).heap.size from by simp)
      clear hbx e0 HP HKB HE HKG hix
      generalize w5.alloc (.cells #[.int .i64 s.kind, .int .i64 0, .int .u64 0, .int .i64 0, .int .u64 0, .int .i64 0, .bool false, .int .i64 0, .int .i64 0, .int .i64 0, .int .i64 0, .slice none 0 0] 25) = w6 at *
      generalize w5.heap.size = d at *
      have k0 := (HX.out.kk.cell 0).trans rfl
      go_upto_region 6 with fail
      have hbx := (Below.refl w6.heap.size w6).alloc (Nat.le_refl _) (.cells #[bv w0s] 9)
      have HW := Lib.hid (show (w6.alloc (.cells #[bv w0s] 9)).ownsRow (d + 1) 9 1 (.slice (some ⟨w6.heap.size, 0, none⟩) 1 1) 1 [bv w0s] from ⟨rfl, .inr ⟨w6.heap.size, 1, #[bv w0s], rfl, HDL.out, heap_alloc_new w6 _, Nat.le_refl _, by unfold maxLen; omega, rfl, rfl⟩⟩)
      replace HX := Lib.hid (HX.out.below hbx)
      clear hbx k0 HDL
      generalize w6.alloc (.cells #[bv w0s] 9) = w7 at *
      have k1 := (HX.out.kk.cell 1).trans rfl
      go_wp2_with fail
      clear k1
      go_loopw [6, 31] (TxR w w.heap.size kb d s (.slice A s.fails.length cc) w0s f fs) (fun _ v _ => m - cntZ v)
      case atStart => exact ⟨0, [], rfl, Nat.zero_le _, rfl, HX.out, HW.out⟩
      case round =>
        clear HX HW
        obtain ⟨i, ws, rfl, hi, hws, hX, hW⟩ := hrel
        have HX := Lib.hid hX
        have HW := Lib.hid hW
        have HWS := Lib.hid hws
        clear hX hW hws
        have him : i ≤ m := by rw [← HM.out]; exact hi
        clear hi
        by_cases hin : i < m
        · have g1 : decide ((i : Int) < (m : Int)) = true := by simp; exact hin
          have g1' : decide (i < m) = true := by simp; exact hin
          obtain ⟨c, hc⟩ : ∃ c, fs[i]? = some c := ⟨_, List.getElem?_eq_getElem (by rw [HM.out]; exact hin)⟩
          have HC := Lib.hid hc
          have hsz : i < (⟨f.toArray⟩ : ByteArray).size := (show i < f.length by omega)
          have HXB := Lib.hid (show (⟨f.toArray⟩ : ByteArray)[i]'hsz = pcd c from HFG.out i c hc (by omega))
          clear hc
          have k1 := (HX.out.kk.cell 1).trans rfl
          go_upto_region 9 with fail
          refine wp_region_held_drew (S := (fun w' => (w'.cell? ⟨w.heap.size, 0, none⟩ = some (.int .i64 s.kind) ∧ w'.cell? ⟨w.heap.size, 1, none⟩ = some (.int .i64 s.guest) ∧ w'.cell? ⟨w.heap.size, 2, none⟩ = some (.int .u64 s.addr) ∧ w'.cell? ⟨w.heap.size, 3, none⟩ = some (.int .i64 s.size) ∧ w'.cell? ⟨w.heap.size, 4, none⟩ = some (.int .u64 s.value) ∧ w'.cell? ⟨w.heap.size, 5, none⟩ = some (.int .i64 s.page) ∧ w'.cell? ⟨w.heap.size, 6, none⟩ = some (.bool s.on) ∧ w'.cell? ⟨w.heap.size, 7, none⟩ = some (.int .i64 s.asid) ∧ w'.cell? ⟨w.heap.size, 8, none⟩ = some (.int .i64 s.what) ∧ w'.cell? ⟨w.heap.size, 9, none⟩ = some (.int .i64 s.set) ∧ w'.cell? ⟨w.heap.size, 10, none⟩ = some (.int .i64 s.way) ∧ w'.cell? ⟨w.heap.size, 11, none⟩ = some (.slice A s.fails.length cc)) ∧ w'.cell? ⟨kb, 1, none⟩ = some (bv f))) (by kernel_rfl) ?_ (fun hHeld => ?_)
          · exact ⟨HX.out.st.cells, k1⟩
          clear k1
          replace HX := Lib.hid (HX.out.below (Below.refl _ _).drew)
          replace HW := Lib.hid (own_below HW.out (Below.refl _ _).drew)
          generalize wr.drew = wv at *
          ((refine takeY 0 (v := ?_) rfl (by kernel_rfl) (by kernel_rfl) (by kernel_rfl) (fun _ _ _ h => h) (by rfl) (by assumption) ?_ ?_; rotate_left; · (intro w hSw; (try dsimp only at hSw); go_simp; (first | done | with_reducible rfl))))
          (try simp only [Act.put, List.setIfInBounds_toArray, List.set_cons_zero, List.set_cons_succ])
          ((refine takeY 1 (v := ?_) rfl (by kernel_rfl) (by kernel_rfl) (by kernel_rfl) (fun _ _ _ h => h) (by rfl) (by assumption) ?_ ?_; rotate_left; · (intro w hSw; (try dsimp only at hSw); go_simp; (first | done | with_reducible rfl))))
          (try simp only [Act.put, List.setIfInBounds_toArray, List.set_cons_zero, List.set_cons_succ])
          ((refine takeY 2 (v := ?_) rfl (by kernel_rfl) (by kernel_rfl) (by kernel_rfl) (fun _ _ _ h => h) (by rfl) (by assumption) ?_ ?_; rotate_left; · (intro w hSw; (try dsimp only at hSw); go_simp; (first | done | with_reducible rfl))))
          (try simp only [Act.put, List.setIfInBounds_toArray, List.set_cons_zero, List.set_cons_succ])
          ((refine takeY 3 (v := ?_) rfl (by kernel_rfl) (by kernel_rfl) (by kernel_rfl) (fun _ _ _ h => h) (by rfl) (by assumption) ?_ ?_; rotate_left; · (intro w hSw; (try dsimp only at hSw); go_simp; (first | done | with_reducible rfl))))
          (try simp only [Act.put, List.setIfInBounds_toArray, List.set_cons_zero, List.set_cons_succ])
          ((refine takeY 4 (v := ?_) rfl (by kernel_rfl) (by kernel_rfl) (by kernel_rfl) (fun _ _ _ h => h) (by rfl) (by assumption) ?_ ?_; rotate_left; · (intro w hSw; (try dsimp only at hSw); go_simp; (first | done | with_reducible rfl))))
          (try simp only [Act.put, List.setIfInBounds_toArray, List.set_cons_zero, List.set_cons_succ])
          refine stepH 5 rfl (by kernel_rfl) (by rfl) (fun K hK => ?_)
          go_simp
          rw [HXB.out]
          refine (lput s _ hs c _ d (by have := HX.out.n3; have := HX.out.sz; omega) (.slice none 0 0) HX.out.env HX.out.st.fl' HL.out HX.out.db).mono ?_; rintro e wn ⟨x, ok, rfl, hwd, hbd, ho⟩
          have HWD := Lib.hid hwd
          replace HW := Lib.hid (own_only HW.out ho (fun k hk => by omega))
          replace HX := Lib.hid (HX.out.put ho hbd)
          clear hwd hbd ho
          (refine hK.out _ _ ?_ (fun hHeld => ?_))
          · exact ⟨HX.out.st.cells, (HX.out.kk.cell 1).trans rfl⟩
          clear hK K
          ((refine takeY 6 (v := ?_) rfl (by kernel_rfl) (by kernel_rfl) (by kernel_rfl) (fun _ _ _ h => h) (by rfl) (by assumption) ?_ ?_; rotate_left; · (intro w hSw; (try dsimp only at hSw); go_simp; (first | done | with_reducible rfl))))
          (try simp only [Act.put, List.setIfInBounds_toArray, List.set_cons_zero, List.set_cons_succ])
          ((refine takeY 7 (v := ?_) rfl (by kernel_rfl) (by kernel_rfl) (by kernel_rfl) (fun _ _ _ h => h) (by rfl) (by assumption) ?_ ?_; rotate_left; · (intro w hSw; (try dsimp only at hSw); go_simp; (first | done | with_reducible rfl))))
          (try simp only [Act.put, List.setIfInBounds_toArray, List.set_cons_zero, List.set_cons_succ])
          ((refine takeY 8 (v := ?_) rfl (by kernel_rfl) (by kernel_rfl) (by kernel_rfl) (fun _ _ _ h => h) (by rfl) (by assumption) ?_ ?_; rotate_left; · (intro w hSw; (try dsimp only at hSw); go_simp; (first | done | with_reducible rfl))))
          (try simp only [Act.put, List.setIfInBounds_toArray, List.set_cons_zero, List.set_cons_succ])
          ((refine takeY 9 (v := ?_) rfl (by kernel_rfl) (by kernel_rfl) (by kernel_rfl) (fun _ _ _ h => h) (by rfl) (by assumption) ?_ ?_; rotate_left; · (intro w hSw; (try dsimp only at hSw); go_simp; (first | done | with_reducible rfl))))
          (try simp only [Act.put, List.setIfInBounds_toArray, List.set_cons_zero, List.set_cons_succ])
          ((refine takeY 10 (v := ?_) rfl (by kernel_rfl) (by kernel_rfl) (by kernel_rfl) (fun _ _ _ h => h) (by rfl) (by assumption) ?_ ?_; rotate_left; · (intro w hSw; (try dsimp only at hSw); go_simp; (first | done | with_reducible rfl))))
          (try simp only [Act.put, List.setIfInBounds_toArray, List.set_cons_zero, List.set_cons_succ])
          refine wpAnyH_done (by kernel_rfl) ?_ _
          clear hHeld
          cases ok with
          | false =>
            have HTN := Lib.hid (show TextS s = ([], 1) from by obtain ⟨k1, k2, k3, k4⟩ := HK.out; exact textS_none k1 k2 k3 k4 (wrds_none HC.out HWD.out))
            go_wp2
            go_ret2
            exact ⟨by rw [HTN.out]; rfl, HX.out.st.be⟩
          | true =>
            have hbx := (Below.refl wn.heap.size wn).alloc (Nat.le_refl _) (.cells #[bv x] 9)
            have HX2 := Lib.hid (HX.out.below hbx)
            have hsz9 : d + 1 ≤ wn.heap.size := HX.out.db.lt
            have hwl9 := wrds_len HWS.out
            rw [List.length_take, HM.out] at hwl9
            clear hbx
            go_wp2_with (first
              | (at_builtin; refine wpList_append_any _ rfl (.tmp 45) (.tmp 47) _ rfl (d + 1) 9 i0 _ 1 16 Tryd.underlying36 hi0 hz0' hz1 hz2 rfl (by omega) u6 _ _ rfl (HW.out.alloc _) _ (some ⟨wn.heap.size, 0, none⟩) 1 1 [bv x] rfl (reads_one1 wn _ _) (by simp; rfl) (by unfold maxLen; simp only [List.length_cons]; omega) (by simp only [List.length_cons]; omega) (by simp; omega) ?_; intro v2 w4 hown2 hg4 hat4)
              | fail)
            refine ⟨⟨i + 1, ws ++ [x], by go_num, by rw [HM.out]; omega, by rw [wrds_snoc HC.out HWS.out, HWD.out]; rfl, ?_, ?_⟩, cntZ_lt hin⟩
            · have e9 : (fs.take (i + 1)).foldl (put1 s) { kind := s.kind } = put1 s ((fs.take i).foldl (put1 s) { kind := s.kind }) c := by
                obtain ⟨hl9, e8⟩ := List.getElem?_eq_some_iff.1 HC.out
                rw [List.take_succ_eq_append_getElem hl9, List.foldl_append, e8]; rfl
              rw [e9]
              exact HX2.out.far (Only.grown (Only.refl _ _) hg4 (fun g e => .inl ((HW.out.lt g e).1)))
            · have e9 : (w0s :: (ws ++ [x])).map bv = (w0s :: ws).map bv ++ [bv x] := by simp
              rw [e9, show (w0s :: (ws ++ [x])).length = (w0s :: ws).length + 1 from by simp]
              exact hown2
        · obtain rfl : i = m := by omega
          have g1 : decide ((i : Int) < (i : Int)) = false := by simp
          have hti : fs.take i = fs := List.take_of_length_le (by rw [HM.out]; exact Nat.le_refl _)
          rw [hti] at HWS HX
          clear hti
          have HMS := Lib.hid (show fs.foldl (put1 s) { kind := s.kind } = maskS s fs from rfl)
          rw [HMS.out] at HX
          obtain ⟨o, ho⟩ : ∃ o, maskS s fs = o := ⟨_, rfl⟩
          have HOO := Lib.hid ho
          rw [ho] at HX
          clear ho HMS
          have cs1 := HX.out.st.cells
          have cs2 := stC_cells HX.out.db
          go_wp2_with fail
          refine (lsame s o _ (.slice none 0 0) _).mono ?_; rintro e w8 ⟨rfl, hb⟩
          replace HX := Lib.hid (HX.out.below hb)
          replace HW := Lib.hid (own_below HW.out hb)
          clear hb cs1 cs2
          have cs1 := HX.out.st.cells
          obtain ⟨sb, hsb⟩ : ∃ b, sameB s o = b := ⟨_, rfl⟩
          have HSB := Lib.hid hsb
          rw [hsb]
          clear hsb
          cases sb with
          | false =>
            have HT := Lib.hid (show TextS s = ([], 1) from by
              obtain ⟨k1, k2, k3, k4⟩ := HK.out
              refine textS_bad k1 k2 k3 k4 (fun h => ?_)
              have h9 := (sameB_iff s o).2 (by rw [← HOO.out]; exact h.1)
              rw [HSB.out] at h9
              cases h9)
            go_wp2
            go_ret2
            exact ⟨by rw [HT.out]; rfl, HX.out.st.be⟩
          | true =>
            have HSM := Lib.hid (show Same1 s (maskS s fs) from by rw [HOO.out]; exact (sameB_iff s o).1 HSB.out)
            by_cases h31 : s.kind = 31
            · have q1 : (s.kind != 31) = false := by rw [h31]; rfl
              have HR := Lib.hid (show Same1 s (maskS s fs) ∧ (n = 31 ∨ s.fails = []) from ⟨HSM.out, .inl (by have := HK.out.1; omega)⟩)
              clear h31
              by_cases hbig : 1000 < s.fails.length
              · have q3 : decide ((s.fails.length : Int) > 1000) = true := by simp; omega
                have q3' : decide (1000 < s.fails.length) = true := by simp; omega
                have HT := Lib.hid (show TextS s = ([], 2) from by
                  obtain ⟨k1, k2, k3, k4⟩ := HK.out
                  rw [textS_some k1 k2 k3 k4 HWS.out HR.out, if_pos hbig])
                go_wp2
                go_ret2
                exact ⟨by rw [HT.out]; rfl, HX.out.st.be⟩
              · have q3 : decide ((s.fails.length : Int) > 1000) = false := by simp; omega
                have q3' : decide (1000 < s.fails.length) = false := by simp; omega
                have HT := Lib.hid (show TextS s = (join (w0s :: ws) [32], 0) from by
                  obtain ⟨k1, k2, k3, k4⟩ := HK.out
                  rw [textS_some k1 k2 k3 k4 HWS.out HR.out, if_neg hbig])
                have hjl := join_len hs.towf HWS.out w0s
                have hwl9 := wrds_len HWS.out
                rw [HM.out] at hjl hwl9
                have hjb : (join (w0s :: ws) [32]).length ≤ 140737488355328 := by
                  have : i * (21 + s.fails.length) ≤ 5 * (21 + s.fails.length) := Nat.mul_le_mul_right _ hfl
                  omega
                go_wp2_with fail
                refine (ljoin (ownsRow_mono HW.out (Nat.zero_le _)) (by simp only [List.length_cons]; omega) hjb).mono ?_; rintro e w9 ⟨rfl, hb⟩
                go_wp2
                go_ret2
                exact ⟨by rw [HT.out]; rfl, HX.out.st.be.trans (hb.mono HX.out.st.be.size)⟩
            · have q1 : (s.kind != 31) = true := by simp; exact h31
              by_cases h0 : 0 < s.fails.length
              · have q2 : decide ((s.fails.length : Int) > 0) = true := decide_eq_true (by omega)
                have q2' : decide (0 < s.fails.length) = true := decide_eq_true h0
                have HT := Lib.hid (show TextS s = ([], 1) from by
                  obtain ⟨k1, k2, k3, k4⟩ := HK.out
                  refine textS_bad k1 k2 k3 k4 (fun h => ?_)
                  rcases h.2 with e | e
                  · exact h31 (by omega)
                  · rw [e] at h0; simp at h0)
                go_wp2
                go_ret2
                exact ⟨by rw [HT.out]; rfl, HX.out.st.be⟩
              · have q2 : decide ((s.fails.length : Int) > 0) = false := decide_eq_false (by omega)
                have q2' : decide (0 < s.fails.length) = false := decide_eq_false h0
                have HR := Lib.hid (show Same1 s (maskS s fs) ∧ (n = 31 ∨ s.fails = []) from ⟨HSM.out, .inr (List.eq_nil_of_length_eq_zero (by omega))⟩)
                clear h31 h0
                by_cases hbig : 1000 < s.fails.length
                · have q3 : decide ((s.fails.length : Int) > 1000) = true := by simp; omega
                  have q3' : decide (1000 < s.fails.length) = true := by simp; omega
                  have HT := Lib.hid (show TextS s = ([], 2) from by
                    obtain ⟨k1, k2, k3, k4⟩ := HK.out
                    rw [textS_some k1 k2 k3 k4 HWS.out HR.out, if_pos hbig])
                  go_wp2
                  go_ret2
                  exact ⟨by rw [HT.out]; rfl, HX.out.st.be⟩
                · have q3 : decide ((s.fails.length : Int) > 1000) = false := by simp; omega
                  have q3' : decide (1000 < s.fails.length) = false := by simp; omega
                  have HT := Lib.hid (show TextS s = (join (w0s :: ws) [32], 0) from by
                    obtain ⟨k1, k2, k3, k4⟩ := HK.out
                    rw [textS_some k1 k2 k3 k4 HWS.out HR.out, if_neg hbig])
                  have hjl := join_len hs.towf HWS.out w0s
                  have hwl9 := wrds_len HWS.out
                  rw [HM.out] at hjl hwl9
                  have hjb : (join (w0s :: ws) [32]).length ≤ 140737488355328 := by
                    have : i * (21 + s.fails.length) ≤ 5 * (21 + s.fails.length) := Nat.mul_le_mul_right _ hfl
                    omega
                  go_wp2_with fail
                  refine (ljoin (ownsRow_mono HW.out (Nat.zero_le _)) (by simp only [List.length_cons]; omega) hjb).mono ?_; rintro e w9 ⟨rfl, hb⟩
                  go_wp2
                  go_ret2
                  exact ⟨by rw [HT.out]; rfl, HX.out.st.be.trans (hb.mono HX.out.st.be.size)⟩
end Go.Proofs.YtjofegjiakjjhaaDoor
