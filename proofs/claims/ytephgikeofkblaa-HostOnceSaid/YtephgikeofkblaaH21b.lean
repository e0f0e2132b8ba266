/- The walk of the statement HostOnce: it returns true. -/
import Derived.Test.YtephgikeofkblaaH21b0
namespace Go.Proofs.Ytephgikeofkblaa
open Go.RowKit Mf

/-- What holds of the memory behind t rounds. -/
structure St (w wr : World) (b mb g5 g6 N la : Nat) (f : Int → Option Pg) (on lent : Nat → Bool) : Prop where
  bk : BookAt wr b mb N la f
  bo : Blk wr g5 50 (boolA on)
  bl : Blk wr g6 50 (boolA lent)
  ag : Agree f on lent
  rg : Rng f la
  be : Below w.heap.size w wr

def RelO (w : World) (b mb g5 g6 : Nat) (lv iv : Value) (wr : World) : Prop := ∃ (t la : Nat) (f : Int → Option Pg) (on lent : Nat → Bool), iv = .int .i64 t ∧ lv = .int .i64 la ∧ la ≤ t ∧ t ≤ 100 ∧ St w wr b mb g5 g6 t la f on lent

def RelC (w : World) (b mb g5 g6 la N : Nat) (f : Int → Option Pg) (on lent : Nat → Bool) (nv hv : Value) (wr : World) : Prop := ∃ (z : Int) (q : Nat), hv = .int .i64 z ∧ nv = .int .i64 (cntU f q : Nat) ∧ z = (q : Int) + 1 ∧ q ≤ la ∧ St w wr b mb g5 g6 N la f on lent

section
variable {w wr w2 : World} {b mb g5 g6 N la N' la' : Nat} {f f' : Int → Option Pg} {on lent : Nat → Bool}
theorem St.setOn (h : St w wr b mb g5 g6 N la f on lent) (hd : w.heap.size ≤ mb ∧ mb < b ∧ b < g5 ∧ g5 < g6) (hb : BookAt w2 b mb N' la' f') (ho : Only (fun k => k = b ∨ k = mb) wr w2) {j : Nat} (hj : j < 101) (v : Bool) (hA : Agree f' (upd on j v) lent) (hR : Rng f' la') :
    St w (w2.setCell ⟨g5, j, none⟩ (.bool v)) b mb g5 g6 N' la' f' (upd on j v) lent := by
  have hs := h.be.size
  have o1 : Only (fun k => k = g5) w2 (w2.setCell ⟨g5, j, none⟩ (.bool v)) := Only.setCell (S := fun k => k = g5) (Only.refl _ w2) (p := ⟨g5, j, none⟩) (.inl rfl) _
  refine ⟨hb.only o1 (by omega) (by omega), ?_, (h.bl.only ho (by omega)).only o1 (by omega), hA, hR, ?_⟩
  · have := (h.bo.only ho (by omega)).set_ j (.bool v)
    rw [boolA_set on hj] at this
    exact this
  · exact below_only (below_only h.be ho (by rintro k (rfl | rfl) <;> omega) hs) o1 (by rintro k rfl; omega) (by have := ho.size; omega)

theorem St.setLent (h : St w wr b mb g5 g6 N la f on lent) (hd : w.heap.size ≤ mb ∧ mb < b ∧ b < g5 ∧ g5 < g6) (hb : BookAt w2 b mb N' la' f') (ho : Only (fun k => k = b ∨ k = mb) wr w2) {j : Nat} (hj : j < 101) (v : Bool) (hA : Agree f' on (upd lent j v)) (hR : Rng f' la') :
    St w (w2.setCell ⟨g6, j, none⟩ (.bool v)) b mb g5 g6 N' la' f' on (upd lent j v) := by
  have hs := h.be.size
  have o1 : Only (fun k => k = g6) w2 (w2.setCell ⟨g6, j, none⟩ (.bool v)) := Only.setCell (S := fun k => k = g6) (Only.refl _ w2) (p := ⟨g6, j, none⟩) (.inl rfl) _
  refine ⟨hb.only o1 (by omega) (by omega), (h.bo.only ho (by omega)).only o1 (by omega), ?_, hA, hR, ?_⟩
  · have := (h.bl.only ho (by omega)).set_ j (.bool v)
    rw [boolA_set lent hj] at this
    exact this
  · exact below_only (below_only h.be ho (by rintro k (rfl | rfl) <;> omega) hs) o1 (by rintro k rfl; omega) (by have := ho.size; omega)
theorem St.quiet (h : St w wr b mb g5 g6 N la f on lent) (hb : Below wr.heap.size wr w2) : St w w2 b mb g5 g6 N la f on lent :=
  ⟨h.bk.below hb, h.bo.below hb h.bo.lt, h.bl.below hb h.bl.lt, h.ag, h.rg, h.be.trans (hb.mono h.be.size)⟩
end

theorem getD_def (f : Int → Option Pg) (k : Int) : pgAt f k = (f k).getD ⟨0, false, 0, 0⟩ := rfl

section
variable {f : Int → Option Pg} {on lent : Nat → Bool} {h : Nat} {a g p g' p' : Int}
theorem ag_lend0 (hA : Agree f on lent) (hf : f h = none) : Agree (lendF f h g p) on (upd lent h false) := by
  have e : lendF f h g p = f := by unfold lendF; rw [hf]
  rw [e]
  exact agree_upd hA (fun _ _ => rfl) (fun _ _ => rfl) (fun j hj => upd_ne _ _ hj) (hA h).1 (by rw [upd_same, getD_def, hf]; rfl)
theorem ag_lend1 (hA : Agree f on lent) (hf : f h = some ⟨a, true, g', p'⟩) : Agree (lendF f h g p) on (upd lent h true) := by
  have e : lendF f h g p = f := by unfold lendF; rw [hf]; rfl
  rw [e]
  exact agree_upd hA (fun _ _ => rfl) (fun _ _ => rfl) (fun j hj => upd_ne _ _ hj) (hA h).1 (by rw [upd_same, getD_def, hf]; rfl)
theorem ag_lend2 (hA : Agree f on lent) (hf : f h = some ⟨a, false, g', p'⟩) : Agree (lendF f h g p) on (upd lent h true) := by
  have e : lendF f h g p = setF f h ⟨a, true, g, p⟩ := by unfold lendF; rw [hf]; rfl
  have es : setF f h ⟨a, true, g, p⟩ h = some ⟨a, true, g, p⟩ := if_pos rfl
  rw [e]
  exact agree_upd hA (fun k hk => if_neg hk) (fun _ _ => rfl) (fun j hj => upd_ne _ _ hj) (by rw [(hA h).1, es, hf]; rfl) (by rw [upd_same, getD_def, es]; rfl)
theorem ag_back0 (hA : Agree f on lent) (hf : f h = none) : Agree (backF f h) on (upd lent h false) := by
  have e : backF f h = f := by unfold backF; rw [hf]
  rw [e]
  exact agree_upd hA (fun _ _ => rfl) (fun _ _ => rfl) (fun j hj => upd_ne _ _ hj) (hA h).1 (by rw [upd_same, getD_def, hf]; rfl)
theorem ag_back1 (hA : Agree f on lent) (hf : f h = some ⟨a, true, g', p'⟩) : Agree (backF f h) on (upd lent h false) := by
  have e : backF f h = setF f h ⟨a, false, 0, 0⟩ := by unfold backF; rw [hf]; rfl
  have es : setF f h ⟨a, false, 0, 0⟩ h = some ⟨a, false, 0, 0⟩ := if_pos rfl
  rw [e]
  exact agree_upd hA (fun k hk => if_neg hk) (fun _ _ => rfl) (fun j hj => upd_ne _ _ hj) (by rw [(hA h).1, es, hf]; rfl) (by rw [upd_same, getD_def, es]; rfl)
theorem ag_back2 (hA : Agree f on lent) (hf : f h = some ⟨a, false, g', p'⟩) : Agree (backF f h) on (upd lent h false) := by
  have e : backF f h = f := by unfold backF; rw [hf]; rfl
  rw [e]
  exact agree_upd hA (fun _ _ => rfl) (fun _ _ => rfl) (fun j hj => upd_ne _ _ hj) (hA h).1 (by rw [upd_same, getD_def, hf]; rfl)
theorem ag_drop0 (hA : Agree f on lent) (hf : f h = none) : Agree (dropF f h) (upd on h false) lent := by
  have e : dropF f h = f := by unfold dropF; rw [hf]
  rw [e]
  exact agree_upd hA (fun _ _ => rfl) (fun j hj => upd_ne _ _ hj) (fun _ _ => rfl) (by rw [upd_same, hf]; rfl) (hA h).2
theorem ag_drop1 (hA : Agree f on lent) (hf : f h = some ⟨a, true, g', p'⟩) : Agree (dropF f h) (upd on h true) lent := by
  have e : dropF f h = f := by unfold dropF; rw [hf]; rfl
  rw [e]
  exact agree_upd hA (fun _ _ => rfl) (fun j hj => upd_ne _ _ hj) (fun _ _ => rfl) (by rw [upd_same, hf]; rfl) (hA h).2
theorem ag_drop2 (hA : Agree f on lent) (hf : f h = some ⟨a, false, g', p'⟩) : Agree (dropF f h) (upd on h false) lent := by
  have e : dropF f h = delF f h := by unfold dropF; rw [hf]; rfl
  have es : delF f h h = none := if_pos rfl
  rw [e]
  exact agree_upd hA (fun k hk => if_neg hk) (fun j hj => upd_ne _ _ hj) (fun _ _ => rfl) (by rw [upd_same, es]; rfl) (by rw [(hA h).2, getD_def, getD_def, es, hf]; rfl)

theorem some_lend (k : Int) (hk : (lendF f h g p k).isSome = true) : (f k).isSome = true := by
  unfold lendF at hk
  cases hf : f h with
  | none => rw [hf] at hk; exact hk
  | some x =>
    rw [hf] at hk
    simp only at hk
    split at hk
    · exact hk
    · unfold setF at hk
      split at hk
      · rename_i e; rw [e, hf]; rfl
      · exact hk
theorem some_back (k : Int) (hk : (backF f h k).isSome = true) : (f k).isSome = true := by
  unfold backF at hk
  cases hf : f h with
  | none => rw [hf] at hk; exact hk
  | some x =>
    rw [hf] at hk
    simp only at hk
    split at hk
    · unfold setF at hk
      split at hk
      · rename_i e; rw [e, hf]; rfl
      · exact hk
    · exact hk
theorem some_drop (k : Int) (hk : (dropF f h k).isSome = true) : (f k).isSome = true := by
  unfold dropF at hk
  cases hf : f h with
  | none => rw [hf] at hk; exact hk
  | some x =>
    rw [hf] at hk
    simp only at hk
    split at hk
    · exact hk
    · unfold delF at hk
      split at hk
      · cases hk
      · exact hk
end

theorem wf_in {z : Int} (h : 0 ≤ z ∧ z ≤ 1000000) : (Lit.int .i64 z).wf = true := by
  have := wf_small (k := z.toNat) (by omega)
  rw [show ((z.toNat : Nat) : Int) = z from by omega] at this
  exact this

theorem tmod_bd4 (a : Int) : a.tmod 4 = 0 ∨ a.tmod 4 = 1 ∨ a.tmod 4 = 2 ∨ ((a.tmod 4 == 0) = false ∧ (a.tmod 4 == 1) = false ∧ (a.tmod 4 == 2) = false) := by
  simp; omega

theorem zeroA (w : World) : (zeroValue 50).run Try.prog w = .ok (.agg (boolA fun _ => false)) w := by kernel_rfl

set_option maxRecDepth 100000 in
set_option maxHeartbeats 4000000 in
theorem hostOnce_walk (A : Option Addr) (m c : Nat) (xs : List Value) (w : World) (hr : Reads w w.heap.size 5 A m xs) (hx : CellsR [.i .i64, .i .i64, .i .i64, .i .i64, .i .u64] xs) :
    Calls Try.prog 4 #[.slice A m c] w fun e w' => e = .returned (.bool true) ∧ Below w.heap.size w w' := by
  have HR := Lib.hid hr
  have HX := Lib.hid hx
  clear hr hx
  have hz := zeroA
  go_enter Try.func4, Try.ntmps4
  go_wp2_with fail
  refine (new_any _).mono ?_; rintro e w1 ⟨rfl, h1, hb1⟩
  have H1 := Lib.hid h1
  have HB1 := Lib.hid hb1
  have hlt1 : w.heap.size + 1 < w1.heap.size := h1.blk.lt
  clear h1 hb1
  go_wp2_with fail
  go_loopw [4, 7] (RelO w (w.heap.size + 1) w.heap.size w1.heap.size (w1.heap.size + 1)) (fun _ i _ => 100 - (intOf i).toNat)
  case atStart =>
    have hbe := (HB1.out.alloc HB1.out.size (.cells (boolA fun _ => false) 50)).alloc (by have := HB1.out.size; simp; omega) (.cells (boolA fun _ => false) 50)
    have hb1 := (Blk.new w1 50 (boolA fun _ => false)).alloc (.cells (boolA fun _ => false) 50)
    have hb2 := Blk.new (w1.alloc (.cells (boolA fun _ => false) 50)) 50 (boolA fun _ => false)
    have hb0 := H1.out.below (((Below.refl w1.heap.size w1).alloc (Nat.le_refl _) (.cells (boolA fun _ => false) 50)).alloc (by simp) (.cells (boolA fun _ => false) 50))
    exact ⟨0, 0, _, _, _, rfl, rfl, Nat.le_refl _, by omega, ⟨hb0, hb1, by simpa using hb2, agree_zero, rng_zero, hbe⟩⟩
  case round =>
    obtain ⟨t, la, f, on, lent, rfl, rfl, hla, ht, hst⟩ := hrel
    have HS := Lib.hid hst
    clear hst
    by_cases hlt : t < m ∧ t < 100
    · obtain ⟨l1, l2⟩ := hlt
      obtain ⟨ad, rfl, hadb, hcell⟩ := (HR.out.below HS.out.be).2 (by omega)
      have hlen := HR.out.1
      have hint : ∀ q k, q < 5 → ([.i .i64, .i .i64, .i .i64, .i .i64, .i .u64] : List CK)[q]? = some (.i k) → ∃ z, wr.cell? (ad.add (t * 5 + q)) = some (.int k z) ∧ (Lit.int k z).wf = true := fun q k hq hk => by
        have hq' : t * 5 + q < xs.length := by omega
        obtain ⟨z, hz, hwz⟩ := HX.out.int hq' (kind_at (ks := [.i .i64, .i .i64, .i .i64, .i .i64, .i .u64]) hq hk)
        exact ⟨z, hcell _ _ hz, hwz⟩
      obtain ⟨kd, hc0, _⟩ := hint 0 .i64 (by decide) rfl
      rw [Nat.add_zero] at hc0
      obtain ⟨fr, hc1, _⟩ := hint 1 .i64 (by decide) rfl
      obtain ⟨hh, hc2, _⟩ := hint 2 .i64 (by decide) rfl
      obtain ⟨gu, hc3, _⟩ := hint 3 .i64 (by decide) rfl
      obtain ⟨pg, hc4, _⟩ := hint 4 .u64 (by decide) rfl
      rw [add_field' _ _ _ (by decide)] at hc1 hc2 hc3 hc4
      have hc4' : wr.cell? ⟨(ad.add (t * 5)).block, (ad.add (t * 5)).off + 3 + 1, none⟩ = some (.int .u64 pg) := hc4
      have hm1 : bits .and .i64 hh 127 = hh % 128 := mask64 hh 7 (by omega)
      have hm2 : bits .and .i64 fr 1023 = fr % 1024 := mask64 fr 10 (by omega)
      obtain ⟨hn, hhn⟩ : ∃ hn : Nat, 1 + hh % 128 % ((la : Int) + 1) = hn := ⟨(1 + hh % 128 % ((la : Int) + 1)).toNat, by
        have := Int.emod_nonneg (hh % 128) (b := (la : Int) + 1) (by omega); omega⟩
      have bh : 1 ≤ hn ∧ hn ≤ 100 := by
        have h1 := Int.emod_nonneg (hh % 128) (b := (la : Int) + 1) (by omega)
        have h2 := Int.emod_lt_of_pos (hh % 128) (b := (la : Int) + 1) (by omega)
        omega
      have hw := wf_in (z := (hn : Int)) (by omega)
      have hmin : min (hn : Int) 100 = hn := by omega
      have hle : decide ((hn : Int) ≤ 100) = true := by simp; omega
      have con := (HS.out.bo.cell hn).trans (boolA_get on (by omega))
      have bf : 0 ≤ fr % 1024 ∧ fr % 1024 < 1024 := by omega
      have HAG := Lib.hid (HS.out.ag hn)
      obtain ⟨kr, hkr⟩ : ∃ kr, kd.tmod 4 = kr := ⟨_, rfl⟩
      have hkk := tmod_bd4 kd
      rw [hkr] at hkk
      have HD := Lib.hid (show w.heap.size ≤ w.heap.size ∧ w.heap.size < w.heap.size + 1 ∧ w.heap.size + 1 < w1.heap.size ∧ w1.heap.size < w1.heap.size + 1 from by omega)
      clear hcell hint hlen
      rcases hkk with rfl | rfl | rfl | ⟨n0, n1, n2⟩
      · go_wp2_with fail
        refine (add_ok _ _ _ _ _ (fr % 1024) _ HS.out.bk (by omega) (by omega) (by unfold maxLen; omega)).mono ?_; rintro e w2 ⟨rfl, h2, ho2⟩
        have hfz := (HS.out.bo.only ho2 (by omega)).frozen (la + 1)
        have cw := ((HS.out.bo.only ho2 (by omega)).cell (la + 1)).trans (boolA_get on (by omega))
        have hN : ((la : Int) + 1).toNat = la + 1 := by omega
        have H9 := Lib.hid (HS.out.setOn HD.out h2 ho2 (j := la + 1) (by omega) true (agree_add HS.out.ag HS.out.rg _) (rng_add HS.out.rg _))
        clear h2 ho2
        go_wp2
        exact ⟨⟨t + 1, la + 1, _, _, _, by go_num, by go_num, by omega, by omega, H9.out⟩, by simp only [intOf]; omega⟩
      · cases hf : f hn with
        | none =>
          have eon : on hn = false := by rw [HAG.out.1, hf]; rfl
          have elent : lent hn = false := by rw [HAG.out.2, getD_def, hf]; rfl
          rw [eon] at con
          have HF := Lib.hid hf
          clear hf eon
          go_wp2_with fail
          refine (lend_any _ _ _ _ _ (hn : Int) gu pg _ HS.out.bk hw (by unfold maxLen; omega)).mono ?_; rintro e w2 ⟨rfl, h2, ho2⟩
          rw [show lendE f hn = 23 from by simp [lendE, HF.out]]
          have ho2' := ho2.mono (S' := fun k => k = w.heap.size + 1 ∨ k = w.heap.size) (fun k e => .inr e)
          have cl := ((HS.out.bl.only ho2' (by omega)).cell hn).trans (boolA_get lent (by omega))
          rw [elent] at cl
          have hfz := (HS.out.bl.only ho2' (by omega)).frozen hn
          have H9 := Lib.hid (HS.out.setLent HD.out h2 ho2' (j := hn) (by omega) false (ag_lend0 HS.out.ag HF.out) (rng_sub HS.out.rg some_lend))
          clear h2 ho2 ho2' elent
          go_wp2
          exact ⟨⟨t + 1, la, _, _, _, by go_num, rfl, by omega, by omega, H9.out⟩, by simp only [intOf]; omega⟩
        | some x =>
          obtain ⟨a, l, g', p'⟩ := x
          cases l
          · have eon : on hn = true := by rw [HAG.out.1, hf]; rfl
            have elent : lent hn = false := by rw [HAG.out.2, getD_def, hf]; rfl
            rw [eon] at con
            have HF := Lib.hid hf
            clear hf eon
            go_wp2_with fail
            refine (lend_any _ _ _ _ _ (hn : Int) gu pg _ HS.out.bk hw (by unfold maxLen; omega)).mono ?_; rintro e w2 ⟨rfl, h2, ho2⟩
            rw [show lendE f hn = 0 from by simp [lendE, HF.out]]
            have ho2' := ho2.mono (S' := fun k => k = w.heap.size + 1 ∨ k = w.heap.size) (fun k e => .inr e)
            have cl := ((HS.out.bl.only ho2' (by omega)).cell hn).trans (boolA_get lent (by omega))
            rw [elent] at cl
            have hfz := (HS.out.bl.only ho2' (by omega)).frozen hn
            have H9 := Lib.hid (HS.out.setLent HD.out h2 ho2' (j := hn) (by omega) true (ag_lend2 HS.out.ag HF.out) (rng_sub HS.out.rg some_lend))
            clear h2 ho2 ho2' elent
            go_wp2
            exact ⟨⟨t + 1, la, _, _, _, by go_num, rfl, by omega, by omega, H9.out⟩, by simp only [intOf]; omega⟩
          · have eon : on hn = true := by rw [HAG.out.1, hf]; rfl
            have elent : lent hn = true := by rw [HAG.out.2, getD_def, hf]; rfl
            rw [eon] at con
            have HF := Lib.hid hf
            clear hf eon
            go_wp2_with fail
            refine (lend_any _ _ _ _ _ (hn : Int) gu pg _ HS.out.bk hw (by unfold maxLen; omega)).mono ?_; rintro e w2 ⟨rfl, h2, ho2⟩
            rw [show lendE f hn = 24 from by simp [lendE, HF.out]]
            have ho2' := ho2.mono (S' := fun k => k = w.heap.size + 1 ∨ k = w.heap.size) (fun k e => .inr e)
            have cl := ((HS.out.bl.only ho2' (by omega)).cell hn).trans (boolA_get lent (by omega))
            rw [elent] at cl
            have hfz := (HS.out.bl.only ho2' (by omega)).frozen hn
            have H9 := Lib.hid (HS.out.setLent HD.out h2 ho2' (j := hn) (by omega) true (ag_lend1 HS.out.ag HF.out) (rng_sub HS.out.rg some_lend))
            clear h2 ho2 ho2' elent
            go_wp2
            exact ⟨⟨t + 1, la, _, _, _, by go_num, rfl, by omega, by omega, H9.out⟩, by simp only [intOf]; omega⟩
      · cases hf : f hn with
        | none =>
          have eon : on hn = false := by rw [HAG.out.1, hf]; rfl
          have elent : lent hn = false := by rw [HAG.out.2, getD_def, hf]; rfl
          rw [eon] at con
          have HF := Lib.hid hf
          clear hf eon
          go_wp2_with fail
          refine (back_any _ _ _ _ _ (hn : Int) _ HS.out.bk hw (by unfold maxLen; omega)).mono ?_; rintro e w2 ⟨rfl, h2, ho2⟩
          rw [show backE f hn = 23 from by simp [backE, HF.out]]
          have ho2' := ho2.mono (S' := fun k => k = w.heap.size + 1 ∨ k = w.heap.size) (fun k e => .inr e)
          have cl := ((HS.out.bl.only ho2' (by omega)).cell hn).trans (boolA_get lent (by omega))
          rw [elent] at cl
          have hfz := (HS.out.bl.only ho2' (by omega)).frozen hn
          have H9 := Lib.hid (HS.out.setLent HD.out h2 ho2' (j := hn) (by omega) false (ag_back0 HS.out.ag HF.out) (rng_sub HS.out.rg some_back))
          clear h2 ho2 ho2' elent
          go_wp2
          exact ⟨⟨t + 1, la, _, _, _, by go_num, rfl, by omega, by omega, H9.out⟩, by simp only [intOf]; omega⟩
        | some x =>
          obtain ⟨a, l, g', p'⟩ := x
          cases l
          · have eon : on hn = true := by rw [HAG.out.1, hf]; rfl
            have elent : lent hn = false := by rw [HAG.out.2, getD_def, hf]; rfl
            rw [eon] at con
            have HF := Lib.hid hf
            clear hf eon
            go_wp2_with fail
            refine (back_any _ _ _ _ _ (hn : Int) _ HS.out.bk hw (by unfold maxLen; omega)).mono ?_; rintro e w2 ⟨rfl, h2, ho2⟩
            rw [show backE f hn = 20 from by simp [backE, HF.out]]
            have ho2' := ho2.mono (S' := fun k => k = w.heap.size + 1 ∨ k = w.heap.size) (fun k e => .inr e)
            have cl := ((HS.out.bl.only ho2' (by omega)).cell hn).trans (boolA_get lent (by omega))
            rw [elent] at cl
            have hfz := (HS.out.bl.only ho2' (by omega)).frozen hn
            have H9 := Lib.hid (HS.out.setLent HD.out h2 ho2' (j := hn) (by omega) false (ag_back2 HS.out.ag HF.out) (rng_sub HS.out.rg some_back))
            clear h2 ho2 ho2' elent
            go_wp2
            exact ⟨⟨t + 1, la, _, _, _, by go_num, rfl, by omega, by omega, H9.out⟩, by simp only [intOf]; omega⟩
          · have eon : on hn = true := by rw [HAG.out.1, hf]; rfl
            have elent : lent hn = true := by rw [HAG.out.2, getD_def, hf]; rfl
            rw [eon] at con
            have HF := Lib.hid hf
            clear hf eon
            go_wp2_with fail
            refine (back_any _ _ _ _ _ (hn : Int) _ HS.out.bk hw (by unfold maxLen; omega)).mono ?_; rintro e w2 ⟨rfl, h2, ho2⟩
            rw [show backE f hn = 0 from by simp [backE, HF.out]]
            have ho2' := ho2.mono (S' := fun k => k = w.heap.size + 1 ∨ k = w.heap.size) (fun k e => .inr e)
            have cl := ((HS.out.bl.only ho2' (by omega)).cell hn).trans (boolA_get lent (by omega))
            rw [elent] at cl
            have hfz := (HS.out.bl.only ho2' (by omega)).frozen hn
            have H9 := Lib.hid (HS.out.setLent HD.out h2 ho2' (j := hn) (by omega) false (ag_back1 HS.out.ag HF.out) (rng_sub HS.out.rg some_back))
            clear h2 ho2 ho2' elent
            go_wp2
            exact ⟨⟨t + 1, la, _, _, _, by go_num, rfl, by omega, by omega, H9.out⟩, by simp only [intOf]; omega⟩
      · cases hf : f hn with
        | none =>
          have eon : on hn = false := by rw [HAG.out.1, hf]; rfl
          have elent : lent hn = false := by rw [HAG.out.2, getD_def, hf]; rfl
          rw [eon] at con
          have HF := Lib.hid hf
          clear hf eon
          go_wp2_with fail
          refine (drop_any _ _ _ _ _ (hn : Int) _ HS.out.bk hw).mono ?_; rintro e w2 ⟨rfl, h2, ho2⟩
          rw [show dropE f hn = (0, 23) from by simp [dropE, HF.out]]
          have ho2' := ho2.mono (S' := fun k => k = w.heap.size + 1 ∨ k = w.heap.size) (fun k e => .inr e)
          have cl := ((HS.out.bl.only ho2' (by omega)).cell hn).trans (boolA_get lent (by omega))
          rw [elent] at cl
          have hfz := (HS.out.bo.only ho2' (by omega)).frozen hn
          have cw := ((HS.out.bo.only ho2' (by omega)).cell hn).trans (boolA_get on (by omega))
          have H9 := Lib.hid (HS.out.setOn HD.out (h2.mono (Nat.le_succ _)) ho2' (j := hn) (by omega) false (ag_drop0 HS.out.ag HF.out) (rng_sub HS.out.rg some_drop))
          clear h2 ho2 ho2' elent
          go_wp2
          exact ⟨⟨t + 1, la, _, _, _, by go_num, rfl, by omega, by omega, H9.out⟩, by simp only [intOf]; omega⟩
        | some x =>
          obtain ⟨a, l, g', p'⟩ := x
          cases l
          · have eon : on hn = true := by rw [HAG.out.1, hf]; rfl
            have elent : lent hn = false := by rw [HAG.out.2, getD_def, hf]; rfl
            rw [eon] at con
            have HF := Lib.hid hf
            clear hf eon
            go_wp2_with fail
            refine (drop_any _ _ _ _ _ (hn : Int) _ HS.out.bk hw).mono ?_; rintro e w2 ⟨rfl, h2, ho2⟩
            rw [show dropE f hn = (a, 0) from by simp [dropE, HF.out]]
            have ho2' := ho2.mono (S' := fun k => k = w.heap.size + 1 ∨ k = w.heap.size) (fun k e => .inr e)
            have cl := ((HS.out.bl.only ho2' (by omega)).cell hn).trans (boolA_get lent (by omega))
            rw [elent] at cl
            have hfz := (HS.out.bo.only ho2' (by omega)).frozen hn
            have cw := ((HS.out.bo.only ho2' (by omega)).cell hn).trans (boolA_get on (by omega))
            have H9 := Lib.hid (HS.out.setOn HD.out (h2.mono (Nat.le_succ _)) ho2' (j := hn) (by omega) false (ag_drop2 HS.out.ag HF.out) (rng_sub HS.out.rg some_drop))
            clear h2 ho2 ho2' elent
            go_wp2
            exact ⟨⟨t + 1, la, _, _, _, by go_num, rfl, by omega, by omega, H9.out⟩, by simp only [intOf]; omega⟩
          · have eon : on hn = true := by rw [HAG.out.1, hf]; rfl
            have elent : lent hn = true := by rw [HAG.out.2, getD_def, hf]; rfl
            rw [eon] at con
            have HF := Lib.hid hf
            clear hf eon
            go_wp2_with fail
            refine (drop_any _ _ _ _ _ (hn : Int) _ HS.out.bk hw).mono ?_; rintro e w2 ⟨rfl, h2, ho2⟩
            rw [show dropE f hn = (0, 24) from by simp [dropE, HF.out]]
            have ho2' := ho2.mono (S' := fun k => k = w.heap.size + 1 ∨ k = w.heap.size) (fun k e => .inr e)
            have cl := ((HS.out.bl.only ho2' (by omega)).cell hn).trans (boolA_get lent (by omega))
            rw [elent] at cl
            have hfz := (HS.out.bo.only ho2' (by omega)).frozen hn
            have cw := ((HS.out.bo.only ho2' (by omega)).cell hn).trans (boolA_get on (by omega))
            have H9 := Lib.hid (HS.out.setOn HD.out (h2.mono (Nat.le_succ _)) ho2' (j := hn) (by omega) true (ag_drop1 HS.out.ag HF.out) (rng_sub HS.out.rg some_drop))
            clear h2 ho2 ho2' elent
            go_wp2
            exact ⟨⟨t + 1, la, _, _, _, by go_num, rfl, by omega, by omega, H9.out⟩, by simp only [intOf]; omega⟩
    · have hlt' : m ≤ t ∨ (t < m ∧ 100 ≤ t) := by omega
      clear hlt
      have hla' : la ≤ 100 := by omega
      rcases hlt' with h | ⟨h1, h2⟩
      · go_wp2_with fail
        obtain ⟨wo, rfl⟩ : ∃ wo : World, wo = wr := ⟨_, rfl⟩
        go_loopw [14, 15] (RelC w (w.heap.size + 1) w.heap.size w1.heap.size (w1.heap.size + 1) la t f on lent) (fun _ i _ => 200 - (intOf i).toNat)
        case atStart => exact ⟨1, 0, rfl, rfl, rfl, Nat.zero_le _, HS.out⟩
        case round =>
          obtain ⟨z, q, rfl, rfl, hzq, hq, hst⟩ := hrel
          have HT := Lib.hid hst
          have HZ := Lib.hid hzq
          clear hst
          have hcl := cntU_le f q
          by_cases hql : q < la
          · have con := (HT.out.bo.cell (q + 1)).trans (boolA_get on (by omega))
            have hN : z.toNat = q + 1 := by omega
            have hz1 : 0 ≤ z ∧ z ≤ 100 := by omega
            have hz2 : z ≤ (la : Int) := by omega
            have hwq := wf_in (z := z) (by omega)
            have HAG : Hid (on (q + 1) = (f z).isSome ∧ lent (q + 1) = (pgAt f z).lent) := Lib.hid (by have := HT.out.ag (q + 1); rw [show ((q + 1 : Nat) : Int) = z from by omega] at this; exact this)
            have hsu : Hid (cntU f (q + 1) = cntU f q + (if (f z).isSome then 1 else 0)) := Lib.hid (by rw [hzq]; exact cntU_succ f q)
            have hcl' : (cntU f q : Int) ≤ 100 := by omega
            clear hzq hcl
            cases hb : on (q + 1)
            · rw [hb] at con
              have hsn : (f z).isSome = false := by have := HAG.out.1; rw [hb] at this; exact this.symm
              rw [hsn] at hsu
              clear hb hsn
              go_wp2_with fail
              refine (lent_any _ _ _ _ _ z _ HT.out.bk hwq).mono ?_; rintro e w2 ⟨rfl, hb2⟩
              rw [show (pgAt f z).lent = lent (q + 1) from HAG.out.2.symm]
              have H2 := Lib.hid ((HT.out.quiet hb2).quiet ((Below.refl w2.heap.size w2).alloc (Nat.le_refl _) (.cells #[.int .i64 (pgAt f z).g, .int .u64 (pgAt f z).p] 31)))
              have cl := (H2.out.bl.cell (q + 1)).trans (boolA_get lent (by omega))
              clear hb2
              go_wp2
              exact ⟨⟨z + 1, q + 1, rfl, by rw [hsu.out]; rfl, by have := HZ.out; omega, by omega, H2.out⟩, by simp only [intOf]; omega⟩
            · rw [hb] at con
              have hsn : (f z).isSome = true := by have := HAG.out.1; rw [hb] at this; exact this.symm
              rw [hsn] at hsu
              clear hb hsn
              go_wp2_with fail
              refine (lent_any _ _ _ _ _ z _ HT.out.bk hwq).mono ?_; rintro e w2 ⟨rfl, hb2⟩
              rw [show (pgAt f z).lent = lent (q + 1) from HAG.out.2.symm]
              have H2 := Lib.hid ((HT.out.quiet hb2).quiet ((Below.refl w2.heap.size w2).alloc (Nat.le_refl _) (.cells #[.int .i64 (pgAt f z).g, .int .u64 (pgAt f z).p] 31)))
              have cl := (H2.out.bl.cell (q + 1)).trans (boolA_get lent (by omega))
              clear hb2
              go_wp2
              exact ⟨⟨z + 1, q + 1, rfl, by rw [hsu.out]; go_num, by have := HZ.out; omega, by omega, H2.out⟩, by simp only [intOf]; omega⟩
          · have hz2 : ¬ z ≤ (la : Int) := by omega
            have hall := Lib.hid (show la = q from by omega)
            clear hzq hql
            go_wp2_with fail
            refine (told_any _).mono ?_; rintro e w3 ⟨rfl, hb3⟩
            have H3 := Lib.hid (HT.out.quiet hb3)
            clear hb3
            go_wp2_with fail
            refine (list_any _ _ _ _ _ (UE la) _ H3.out.bk (UE_sorted la) (by rw [UE_len]; omega) (fun j hj => UE_mem.2 (HT.out.rg j hj))).mono ?_; rintro e w4 ⟨v, rfl, hown, hb4⟩
            obtain ⟨A9, c9, rfl⟩ := own_slice hown
            rw [show ((UE la).filter fun i => (f i).isSome).length = cntU f q from by rw [hall.out]; rfl]
            have H4 := Lib.hid (H3.out.quiet hb4)
            clear hown hb4
            go_wp2
            go_ret
            exact ⟨rfl, H4.out.be⟩
      · go_wp2_with fail
        obtain ⟨wo, rfl⟩ : ∃ wo : World, wo = wr := ⟨_, rfl⟩
        go_loopw [14, 15] (RelC w (w.heap.size + 1) w.heap.size w1.heap.size (w1.heap.size + 1) la t f on lent) (fun _ i _ => 200 - (intOf i).toNat)
        case atStart => exact ⟨1, 0, rfl, rfl, rfl, Nat.zero_le _, HS.out⟩
        case round =>
          obtain ⟨z, q, rfl, rfl, hzq, hq, hst⟩ := hrel
          have HT := Lib.hid hst
          have HZ := Lib.hid hzq
          clear hst
          have hcl := cntU_le f q
          by_cases hql : q < la
          · have con := (HT.out.bo.cell (q + 1)).trans (boolA_get on (by omega))
            have hN : z.toNat = q + 1 := by omega
            have hz1 : 0 ≤ z ∧ z ≤ 100 := by omega
            have hz2 : z ≤ (la : Int) := by omega
            have hwq := wf_in (z := z) (by omega)
            have HAG : Hid (on (q + 1) = (f z).isSome ∧ lent (q + 1) = (pgAt f z).lent) := Lib.hid (by have := HT.out.ag (q + 1); rw [show ((q + 1 : Nat) : Int) = z from by omega] at this; exact this)
            have hsu : Hid (cntU f (q + 1) = cntU f q + (if (f z).isSome then 1 else 0)) := Lib.hid (by rw [hzq]; exact cntU_succ f q)
            have hcl' : (cntU f q : Int) ≤ 100 := by omega
            clear hzq hcl
            cases hb : on (q + 1)
            · rw [hb] at con
              have hsn : (f z).isSome = false := by have := HAG.out.1; rw [hb] at this; exact this.symm
              rw [hsn] at hsu
              clear hb hsn
              go_wp2_with fail
              refine (lent_any _ _ _ _ _ z _ HT.out.bk hwq).mono ?_; rintro e w2 ⟨rfl, hb2⟩
              rw [show (pgAt f z).lent = lent (q + 1) from HAG.out.2.symm]
              have H2 := Lib.hid ((HT.out.quiet hb2).quiet ((Below.refl w2.heap.size w2).alloc (Nat.le_refl _) (.cells #[.int .i64 (pgAt f z).g, .int .u64 (pgAt f z).p] 31)))
              have cl := (H2.out.bl.cell (q + 1)).trans (boolA_get lent (by omega))
              clear hb2
              go_wp2
              exact ⟨⟨z + 1, q + 1, rfl, by rw [hsu.out]; rfl, by have := HZ.out; omega, by omega, H2.out⟩, by simp only [intOf]; omega⟩
            · rw [hb] at con
              have hsn : (f z).isSome = true := by have := HAG.out.1; rw [hb] at this; exact this.symm
              rw [hsn] at hsu
              clear hb hsn
              go_wp2_with fail
              refine (lent_any _ _ _ _ _ z _ HT.out.bk hwq).mono ?_; rintro e w2 ⟨rfl, hb2⟩
              rw [show (pgAt f z).lent = lent (q + 1) from HAG.out.2.symm]
              have H2 := Lib.hid ((HT.out.quiet hb2).quiet ((Below.refl w2.heap.size w2).alloc (Nat.le_refl _) (.cells #[.int .i64 (pgAt f z).g, .int .u64 (pgAt f z).p] 31)))
              have cl := (H2.out.bl.cell (q + 1)).trans (boolA_get lent (by omega))
              clear hb2
              go_wp2
              exact ⟨⟨z + 1, q + 1, rfl, by rw [hsu.out]; go_num, by have := HZ.out; omega, by omega, H2.out⟩, by simp only [intOf]; omega⟩
          · have hz2 : ¬ z ≤ (la : Int) := by omega
            have hall := Lib.hid (show la = q from by omega)
            clear hzq hql
            go_wp2_with fail
            refine (told_any _).mono ?_; rintro e w3 ⟨rfl, hb3⟩
            have H3 := Lib.hid (HT.out.quiet hb3)
            clear hb3
            go_wp2_with fail
            refine (list_any _ _ _ _ _ (UE la) _ H3.out.bk (UE_sorted la) (by rw [UE_len]; omega) (fun j hj => UE_mem.2 (HT.out.rg j hj))).mono ?_; rintro e w4 ⟨v, rfl, hown, hb4⟩
            obtain ⟨A9, c9, rfl⟩ := own_slice hown
            rw [show ((UE la).filter fun i => (f i).isSome).length = cntU f q from by rw [hall.out]; rfl]
            have H4 := Lib.hid (H3.out.quiet hb4)
            clear hown hb4
            go_wp2
            go_ret
            exact ⟨rfl, H4.out.be⟩
end Go.Proofs.Ytephgikeofkblaa
