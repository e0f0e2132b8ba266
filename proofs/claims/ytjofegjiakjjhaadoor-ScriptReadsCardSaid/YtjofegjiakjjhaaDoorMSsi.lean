import Derived.Test.YtjofegjiakjjhaaDoorMSsh
/- Script, the document's own: Read. -/
namespace Go.Proofs.YtjofegjiakjjhaaDoor
open Go.RowKit Go.Lib Mf

/-- The rounds of Read: i bytes seen, the line begins at j, k lines are read. -/
def RdC (t : Bs) (ls : List Bs) (i j k : Nat) (acc : List St) : Prop := (i ≤ t.length ∧ j ≤ i ∧ ls.drop k = cutL 10 (t.drop j) ∧ (10 : UInt8) ∉ (t.take i).drop j ∧ RdI ls k acc ∧ k ≤ i) ∨ (i = t.length + 1 ∧ rdF 0 ls = (acc, 0))
def RdR (w : World) (t : Bs) (ls : List Bs) (v5 v6 v7 v8 : Value) (wr : World) : Prop := ∃ (i j k : Nat) (l : List (St × Value)), v8 = .int .i64 i ∧ v6 = .int .i64 j ∧ v7 = .int .i64 k ∧ i ≤ t.length + 1 ∧ LsR wr w.heap.size l v5 ∧ l.length ≤ i ∧ k ≤ i ∧ RdC t ls i j k (l.map (·.1)) ∧ Below w.heap.size w wr
/-- A line ends at i. -/
structure Seg (t : Bs) (ls : List Bs) (i j k : Nat) (acc : List St) (x : Bs) : Prop where
  at_ : ls[k]? = some x
  rd : RdI ls k acc
  next : ∀ acc', RdI ls (k + 1) acc' → RdC t ls (i + 1) (i + 1) (k + 1) acc'
  len : x.length ≤ t.length
theorem seg_mid {t : Bs} {ls : List Bs} {i j k : Nat} {acc : List St} (hi : i < t.length) (hj : j ≤ i) (hc : ls.drop k = cutL 10 (t.drop j)) (hno : (10 : UInt8) ∉ (t.take i).drop j) (hr : RdI ls k acc) (hki : k ≤ i) (hz : t[i] = 10) : Seg t ls i j k acc ((t.take i).drop j) := by
  have e : ls.drop k = (t.take i).drop j :: cutL 10 (t.drop (i + 1)) := by
    rw [hc, drop_cut hi hj hz, cutL_hit 10 _ _ hno]
  have h1 : ls[k]? = some ((t.take i).drop j) := by
    have := congrArg (fun x : List Bs => x[0]?) e
    simpa using this
  refine ⟨h1, hr, fun acc' h => .inl ⟨hi, Nat.le_refl _, ?_, ?_, h, by omega⟩, by simp; omega⟩
  · rw [drop_at h1] at e
    exact (List.cons.inj e).2
  · rw [List.drop_eq_nil_of_le (by rw [List.length_take]; omega)]; simp
theorem seg_end {t : Bs} {ls : List Bs} {j k : Nat} {acc : List St} (hc : ls.drop k = cutL 10 (t.drop j)) (hno : (10 : UInt8) ∉ (t.take t.length).drop j) (hr : RdI ls k acc) : Seg t ls t.length j k acc ((t.take t.length).drop j) := by
  have e0 : t.take t.length = t := List.take_of_length_le (Nat.le_refl _)
  rw [e0] at hno ⊢
  have e : ls.drop k = [t.drop j] := by rw [hc, cutL_no 10 _ hno]
  have h1 : ls[k]? = some (t.drop j) := by
    have := congrArg (fun x : List Bs => x[0]?) e
    simpa using this
  refine ⟨h1, hr, fun acc' h => .inr ⟨rfl, h.done ?_⟩, by simp⟩
  have := congrArg List.length e
  rw [List.length_drop, List.length_singleton] at this
  omega
set_option maxRecDepth 20000 in
set_option maxHeartbeats 8000000 in
theorem rread (t : Bs) (ht : t.length ≤ 1000000) (w : World) : Calls Tryd.prog 21 #[bv t] w (ReadIs t w) := by
  obtain ⟨n, hn⟩ : ∃ n, t.length = n := ⟨_, rfl⟩
  obtain ⟨i0, hi0, hz0', hz1, hz2⟩ := info_parts infoSt
  by_cases hbig : 200000 < n
  · have g1 : decide ((n : Int) > 200000) = true := decide_eq_true (by omega)
    have g1' : decide (200000 < n) = true := decide_eq_true hbig
    go_enter Tryd.func21, Tryd.ntmps21
    go_wp2
    go_ret3
    exact ⟨[], _, 2, 0, rfl, by unfold ReadS; rw [if_pos (by omega)]; rfl, LsR.nil _ _, Below.refl _ _⟩
  · have g1 : decide ((n : Int) > 200000) = false := decide_eq_false (by omega)
    have g1' : decide (200000 < n) = false := decide_eq_false hbig
    have HRS := Lib.hid (show ReadS t = _ from by unfold ReadS; rw [if_neg (by omega)])
    obtain ⟨ls, hls⟩ : ∃ ls, cutL 10 t = ls := ⟨_, rfl⟩
    rw [hls] at HRS
    have HLS := Lib.hid hls
    clear hls
    go_enter Tryd.func21, Tryd.ntmps21
    go_wp2_with fail
    go_loopw [5, 6, 7, 8] (RdR w t ls) (fun _ _ _ v _ => n + 1 - cntZ v)
    case atStart => exact ⟨0, 0, 0, [], rfl, rfl, rfl, Nat.zero_le _, LsR.nil _ _, Nat.le_refl _, Nat.le_refl _, .inl ⟨Nat.zero_le _, Nat.le_refl _, by rw [← HLS.out]; rfl, by simp, RdI.start _, Nat.le_refl _⟩, Below.refl _ _⟩
    case round =>
      obtain ⟨i, j, k, l, rfl, rfl, rfl, hi, hL, hli, hki, hC, hbe⟩ := hrel
      have HL := Lib.hid hL
      have HBE := Lib.hid hbe
      have HC := Lib.hid hC
      clear hL hC hbe
      by_cases hin : i ≤ n
      · have g2 : decide ((i : Int) ≤ (n : Int)) = true := decide_eq_true (by omega)
        have g2' : decide (i ≤ n) = true := decide_eq_true hin
        rcases HC.out with ⟨_, hji, hcut, hno, hrd, _⟩ | ⟨e, _⟩
        · have HCU := Lib.hid hcut
          have HNO := Lib.hid hno
          have HRD := Lib.hid hrd
          clear hcut hno hrd HC
          by_cases hie : i = n
          · have HIE := Lib.hid hie
            have g3 : decide ((i : Int) < (n : Int)) = false := decide_eq_false (by omega)
            have g3' : decide (i < n) = false := decide_eq_false (by omega)
            have g4 : ((i : Int) == (n : Int)) = true := beq_iff_eq.2 (by omega)
            have HSG := Lib.hid (show Seg t ls i j k (l.map (·.1)) ((t.take i).drop j) from by
              have e : i = t.length := by omega
              subst e
              exact seg_end HCU.out HNO.out HRD.out)
            by_cases hjeq : j = i
            · have g5 : ((j : Int) == (i : Int)) = true := beq_iff_eq.2 (by omega)
              have HSK := Lib.hid (show skipL ((t.take i).drop j) = true from by
                rw [List.drop_eq_nil_of_le (by rw [List.length_take]; omega)]; rfl)
              have HN := Lib.hid (HSG.out.next _ (HSG.out.rd.skip HSG.out.at_ HSK.out))
              have hlt : i < n + 1 := by omega
              have hlt2 : i + 1 ≤ t.length + 1 := by omega
              have HJ := Lib.hid hjeq
              clear hie hjeq
              go_wp2
              refine ⟨⟨i + 1, j, k, l, by go_num, rfl, rfl, hlt2, HL.out, by omega, by omega, ?_, HBE.out⟩, cntZ_lt (a := i) (n := n + 1) (k := .i64) hlt⟩
              rcases HN.out with ⟨h1, _⟩ | h2
              · have := HIE.out; omega
              · exact .inr h2
            · have g5 : ((j : Int) == (i : Int)) = false := beq_eq_false_iff_ne.2 (by omega)
              have hlt : i < n + 1 := by omega
              have hlt2 : i + 1 ≤ t.length + 1 := by omega
              clear hie hjeq
              have hex := extract_bv t j i
              obtain ⟨x, hx⟩ : ∃ x, (t.take i).drop j = x := ⟨_, rfl⟩
              rw [hx] at hex HSG
              have HXL := Lib.hid (HSG.out.len)
              clear hx
              by_cases hx0 : x = []
              · have q0 : (x == []) = true := beq_iff_eq.2 hx0
                have HSK := Lib.hid (show skipL x = true from by rw [hx0]; rfl)
                clear hx0
                go_wp2
                refine ⟨⟨i + 1, i + 1, k + 1, l, by go_num, by go_num, by go_num, by omega, HL.out, by omega, by omega, HSG.out.next _ (HSG.out.rd.skip HSG.out.at_ HSK.out), HBE.out⟩, ?_⟩
                exact cntZ_lt (a := i) (n := n + 1) (k := .i64) (by omega)
              · have q0 : (x == []) = false := beq_eq_false_iff_ne.2 hx0
                have hsz : 0 < (⟨x.toArray⟩ : ByteArray).size := by
                  show 0 < x.length
                  exact List.length_pos_iff.2 hx0
                obtain ⟨z1, hz1'⟩ : ∃ z : Nat, ((⟨x.toArray⟩ : ByteArray)[0]'hsz).toNat = z := ⟨_, rfl⟩
                have HZ1 := Lib.hid (show skipL x = (z1 == 35) from by
                  cases x with
                  | nil => exact absurd rfl hx0
                  | cons y r =>
                    have hz9 : y.toNat = z1 := hz1'
                    rw [← hz9]
                    unfold skipL
                    have : ∀ n : Fin 256, ((some (UInt8.ofNat n.1) : Option UInt8) == some 35) = ((UInt8.ofNat n.1).toNat == 35) := by decide +kernel
                    have h9 := this ⟨y.toNat, UInt8.toNat_lt _⟩
                    have e : UInt8.ofNat y.toNat = y := by simp
                    rw [e] at h9
                    simpa using h9)
                clear hx0
                by_cases h35 : z1 = 35
                · have g3 : ((z1 : Int) == 35) = true := beq_iff_eq.2 (by omega)
                  have g3' : (z1 == 35) = true := beq_iff_eq.2 h35
                  have HSK := Lib.hid (show skipL x = true from by rw [HZ1.out]; exact g3')
                  clear h35
                  go_wp2
                  refine ⟨⟨i + 1, i + 1, k + 1, l, by go_num, by go_num, by go_num, by omega, HL.out, by omega, by omega, HSG.out.next _ (HSG.out.rd.skip HSG.out.at_ HSK.out), HBE.out⟩, ?_⟩
                  exact cntZ_lt (a := i) (n := n + 1) (k := .i64) (by omega)
                · have g3 : ((z1 : Int) == 35) = false := beq_eq_false_iff_ne.2 (by omega)
                  have g3' : (z1 == 35) = false := beq_eq_false_iff_ne.2 h35
                  have HSK := Lib.hid (show skipL x = false from by rw [HZ1.out]; exact g3')
                  clear h35
                  go_wp2_with fail
                  refine (rparse x (by have := HXL.out; omega) _).mono ?_; rintro e w2 ⟨s, F, c8, rfl, hp, hok, hW, hfl, hb⟩
                  obtain ⟨FA, Fc, rfl⟩ := hW.form
                  have HW := Lib.hid hW
                  have HP := Lib.hid hp
                  have HOK := Lib.hid (show s.ok ∧ s.fails.length ≤ 100000 from ⟨hok, hfl⟩)
                  have HB2 := Lib.hid hb
                  clear hW hp hok hfl hb
                  go_upto_region 14 with fail
                  have HC9 := Lib.hid (show Blk (w2.alloc (.cells (stC s (.slice FA s.fails.length Fc)) 25)) w2.heap.size 25 (stC s (.slice FA s.fails.length Fc)) from Blk.new _ _ _)
                  replace HB2 := Lib.hid (HB2.out.alloc HB2.out.size (.cells (stC s (.slice FA s.fails.length Fc)) 25))
                  replace HW := Lib.hid (HW.out.alloc (.cells (stC s (.slice FA s.fails.length Fc)) 25))
                  have hc9 := HC9.out
                  unfold stC at HB2 HW hc9
                  generalize w2.alloc (.cells #[.int .i64 s.kind, .int .i64 s.guest, .int .u64 s.addr, .int .i64 s.size, .int .u64 s.value, .int .i64 s.page, .bool s.on, .int .i64 s.asid, .int .i64 s.what, .int .i64 s.set, .int .i64 s.way, .slice FA s.fails.length Fc] 25) = wa at *
                  clear HC9
                  have HC := Lib.hid (show Blk wa w2.heap.size 25 (stC s (.slice FA s.fails.length Fc)) from hc9)
                  clear hc9
                  rcases parseIs_O HP.out with ⟨rfl, hpo⟩ | ⟨hc0, hpn⟩
                  · have HPO := Lib.hid hpo
                    clear hpo
                    have cs1 := stC_cells HC.out
                    have HCB := Lib.hid (show Blk (wa.alloc (.cells (stC s (.slice FA s.fails.length Fc)) 25)) wa.heap.size 25 (stC s (.slice FA s.fails.length Fc)) from Blk.new _ _ _)
                    have HB3 := Lib.hid (HB2.out.alloc HB2.out.size (.cells (stC s (.slice FA s.fails.length Fc)) 25))
                    have HW3 := Lib.hid (HW.out.alloc (.cells (stC s (.slice FA s.fails.length Fc)) 25))
                    have HL3 := Lib.hid (own_below HL.out.row HB3.out)
                    have HSZ := Lib.hid (show w.heap.size ≤ wa.heap.size + 1 from by have := HBE.out.size; have := HB2.out.size; omega)
                    go_wp2_with (first
                      | (at_builtin; go_loud (refine wpList_append_any _ rfl (.tmp 65) (.tmp 67) _ rfl w.heap.size 25 i0 _ 12 112 Tryd.underlying28 hi0 hz0' hz1 hz2 rfl (by omega) _ _ _ rfl HL3.out _ (some ⟨wa.heap.size, 0, none⟩) 1 1 (stL (s, .slice FA s.fails.length Fc)) rfl (reads_one12 HCB.out) (stL_one _ _ _ _) (by unfold maxLen; omega) (by omega) (by have := HSZ.out; simp; omega) ?_; intro v2 w4 hown2 hg4 hat4))
                      | fail)
                    refine ⟨⟨i + 1, i + 1, k + 1, l ++ [(s, .slice FA s.fails.length Fc)], by go_num, by go_num, by go_num, by omega, HL.out.more HB3.out HW3.out HBE.out.size HOK.out hown2 hg4 hat4, by rw [List.length_append, List.length_singleton]; omega, by omega, ?_, ?_⟩, ?_⟩
                    · rw [List.map_append]
                      exact HSG.out.next _ (HSG.out.rd.more HSG.out.at_ HSK.out HPO.out)
                    · exact (HBE.out.trans (HB3.out.mono HBE.out.size)).grown hg4 (by have := HSZ.out; simp; omega) (fun g hg => (HL.out.row.lt g hg).1)
                    · exact cntZ_lt (a := i) (n := n + 1) (k := .i64) (by omega)
                  · have q9 : (c8 != 0) = true := bne_iff_ne.2 hc0
                    have HK := Lib.hid (HSG.out.rd.bad HSG.out.at_ HSK.out hpn)
                    clear hc0 hpn
                    go_wp2
                    go_ret3
                    exact ⟨[], _, 4, k + 1, by go_num, by rw [HRS.out, if_pos (by rw [HK.out]; omega), HK.out]; rfl, LsR.nil _ _, HBE.out.trans (HB2.out.mono HBE.out.size)⟩
          · have hil : i < t.length := by omega
            have hsz9 : i < (⟨t.toArray⟩ : ByteArray).size := hil
            obtain ⟨z, hz⟩ : ∃ z : Nat, ((⟨t.toArray⟩ : ByteArray)[i]'hsz9).toNat = z := ⟨_, rfl⟩
            have HZ := Lib.hid (show (t[i]).toNat = z from hz)
            have g3 : decide ((i : Int) < (n : Int)) = true := decide_eq_true (by omega)
            have g3' : decide (i < n) = true := decide_eq_true (by omega)
            have g4 : ((i : Int) == (n : Int)) = false := beq_eq_false_iff_ne.2 (by omega)
            have hlt : i < n + 1 := by omega
            have hlt2 : i + 1 ≤ t.length + 1 := by omega
            clear hie
            by_cases h10 : z = 10
            · have g5 : ((z : Int) == 10) = true := beq_iff_eq.2 (by omega)
              have g6 : ((z : Int) != 10) = false := bne_eq_false_iff_eq.2 (by omega)
              have g5' : (z == 10) = true := beq_iff_eq.2 h10
              have HSG := Lib.hid (seg_mid hil hji HCU.out HNO.out HRD.out hki (UInt8.toNat_inj.1 (by rw [HZ.out, h10]; rfl)))
              clear h10
              have hex := extract_bv t j i
              obtain ⟨x, hx⟩ : ∃ x, (t.take i).drop j = x := ⟨_, rfl⟩
              rw [hx] at hex HSG
              have HXL := Lib.hid (HSG.out.len)
              clear hx
              by_cases hx0 : x = []
              · have q0 : (x == []) = true := beq_iff_eq.2 hx0
                have HSK := Lib.hid (show skipL x = true from by rw [hx0]; rfl)
                clear hx0
                go_wp2
                refine ⟨⟨i + 1, i + 1, k + 1, l, by go_num, by go_num, by go_num, by omega, HL.out, by omega, by omega, HSG.out.next _ (HSG.out.rd.skip HSG.out.at_ HSK.out), HBE.out⟩, ?_⟩
                exact cntZ_lt (a := i) (n := n + 1) (k := .i64) (by omega)
              · have q0 : (x == []) = false := beq_eq_false_iff_ne.2 hx0
                have hsz : 0 < (⟨x.toArray⟩ : ByteArray).size := by
                  show 0 < x.length
                  exact List.length_pos_iff.2 hx0
                obtain ⟨z1, hz1'⟩ : ∃ z : Nat, ((⟨x.toArray⟩ : ByteArray)[0]'hsz).toNat = z := ⟨_, rfl⟩
                have HZ1 := Lib.hid (show skipL x = (z1 == 35) from by
                  cases x with
                  | nil => exact absurd rfl hx0
                  | cons y r =>
                    have hz9 : y.toNat = z1 := hz1'
                    rw [← hz9]
                    unfold skipL
                    have : ∀ n : Fin 256, ((some (UInt8.ofNat n.1) : Option UInt8) == some 35) = ((UInt8.ofNat n.1).toNat == 35) := by decide +kernel
                    have h9 := this ⟨y.toNat, UInt8.toNat_lt _⟩
                    have e : UInt8.ofNat y.toNat = y := by simp
                    rw [e] at h9
                    simpa using h9)
                clear hx0
                by_cases h35 : z1 = 35
                · have g3 : ((z1 : Int) == 35) = true := beq_iff_eq.2 (by omega)
                  have g3' : (z1 == 35) = true := beq_iff_eq.2 h35
                  have HSK := Lib.hid (show skipL x = true from by rw [HZ1.out]; exact g3')
                  clear h35
                  go_wp2
                  refine ⟨⟨i + 1, i + 1, k + 1, l, by go_num, by go_num, by go_num, by omega, HL.out, by omega, by omega, HSG.out.next _ (HSG.out.rd.skip HSG.out.at_ HSK.out), HBE.out⟩, ?_⟩
                  exact cntZ_lt (a := i) (n := n + 1) (k := .i64) (by omega)
                · have g3 : ((z1 : Int) == 35) = false := beq_eq_false_iff_ne.2 (by omega)
                  have g3' : (z1 == 35) = false := beq_eq_false_iff_ne.2 h35
                  have HSK := Lib.hid (show skipL x = false from by rw [HZ1.out]; exact g3')
                  clear h35
                  go_wp2_with fail
                  refine (rparse x (by have := HXL.out; omega) _).mono ?_; rintro e w2 ⟨s, F, c8, rfl, hp, hok, hW, hfl, hb⟩
                  obtain ⟨FA, Fc, rfl⟩ := hW.form
                  have HW := Lib.hid hW
                  have HP := Lib.hid hp
                  have HOK := Lib.hid (show s.ok ∧ s.fails.length ≤ 100000 from ⟨hok, hfl⟩)
                  have HB2 := Lib.hid hb
                  clear hW hp hok hfl hb
                  go_upto_region 14 with fail
                  have HC9 := Lib.hid (show Blk (w2.alloc (.cells (stC s (.slice FA s.fails.length Fc)) 25)) w2.heap.size 25 (stC s (.slice FA s.fails.length Fc)) from Blk.new _ _ _)
                  replace HB2 := Lib.hid (HB2.out.alloc HB2.out.size (.cells (stC s (.slice FA s.fails.length Fc)) 25))
                  replace HW := Lib.hid (HW.out.alloc (.cells (stC s (.slice FA s.fails.length Fc)) 25))
                  have hc9 := HC9.out
                  unfold stC at HB2 HW hc9
                  generalize w2.alloc (.cells #[.int .i64 s.kind, .int .i64 s.guest, .int .u64 s.addr, .int .i64 s.size, .int .u64 s.value, .int .i64 s.page, .bool s.on, .int .i64 s.asid, .int .i64 s.what, .int .i64 s.set, .int .i64 s.way, .slice FA s.fails.length Fc] 25) = wa at *
                  clear HC9
                  have HC := Lib.hid (show Blk wa w2.heap.size 25 (stC s (.slice FA s.fails.length Fc)) from hc9)
                  clear hc9
                  rcases parseIs_O HP.out with ⟨rfl, hpo⟩ | ⟨hc0, hpn⟩
                  · have HPO := Lib.hid hpo
                    clear hpo
                    have cs1 := stC_cells HC.out
                    have HCB := Lib.hid (show Blk (wa.alloc (.cells (stC s (.slice FA s.fails.length Fc)) 25)) wa.heap.size 25 (stC s (.slice FA s.fails.length Fc)) from Blk.new _ _ _)
                    have HB3 := Lib.hid (HB2.out.alloc HB2.out.size (.cells (stC s (.slice FA s.fails.length Fc)) 25))
                    have HW3 := Lib.hid (HW.out.alloc (.cells (stC s (.slice FA s.fails.length Fc)) 25))
                    have HL3 := Lib.hid (own_below HL.out.row HB3.out)
                    have HSZ := Lib.hid (show w.heap.size ≤ wa.heap.size + 1 from by have := HBE.out.size; have := HB2.out.size; omega)
                    go_wp2_with (first
                      | (at_builtin; go_loud (refine wpList_append_any _ rfl (.tmp 65) (.tmp 67) _ rfl w.heap.size 25 i0 _ 12 112 Tryd.underlying28 hi0 hz0' hz1 hz2 rfl (by omega) _ _ _ rfl HL3.out _ (some ⟨wa.heap.size, 0, none⟩) 1 1 (stL (s, .slice FA s.fails.length Fc)) rfl (reads_one12 HCB.out) (stL_one _ _ _ _) (by unfold maxLen; omega) (by omega) (by have := HSZ.out; simp; omega) ?_; intro v2 w4 hown2 hg4 hat4))
                      | fail)
                    refine ⟨⟨i + 1, i + 1, k + 1, l ++ [(s, .slice FA s.fails.length Fc)], by go_num, by go_num, by go_num, by omega, HL.out.more HB3.out HW3.out HBE.out.size HOK.out hown2 hg4 hat4, by rw [List.length_append, List.length_singleton]; omega, by omega, ?_, ?_⟩, ?_⟩
                    · rw [List.map_append]
                      exact HSG.out.next _ (HSG.out.rd.more HSG.out.at_ HSK.out HPO.out)
                    · exact (HBE.out.trans (HB3.out.mono HBE.out.size)).grown hg4 (by have := HSZ.out; simp; omega) (fun g hg => (HL.out.row.lt g hg).1)
                    · exact cntZ_lt (a := i) (n := n + 1) (k := .i64) (by omega)
                  · have q9 : (c8 != 0) = true := bne_iff_ne.2 hc0
                    have HK := Lib.hid (HSG.out.rd.bad HSG.out.at_ HSK.out hpn)
                    clear hc0 hpn
                    go_wp2
                    go_ret3
                    exact ⟨[], _, 4, k + 1, by go_num, by rw [HRS.out, if_pos (by rw [HK.out]; omega), HK.out]; rfl, LsR.nil _ _, HBE.out.trans (HB2.out.mono HBE.out.size)⟩
            · have g5 : ((z : Int) == 10) = false := beq_eq_false_iff_ne.2 (by omega)
              have g6 : ((z : Int) != 10) = true := bne_iff_ne.2 (by omega)
              have g5' : (z == 10) = false := beq_eq_false_iff_ne.2 h10
              have HNE := Lib.hid (show t[i] ≠ 10 from fun e => h10 (by rw [← HZ.out, e]; rfl))
              clear h10
              go_wp2
              refine ⟨⟨i + 1, j, k, l, by go_num, rfl, rfl, hlt2, HL.out, by omega, by omega, .inl ⟨hil, by omega, HCU.out, ?_, HRD.out, by omega⟩, HBE.out⟩, cntZ_lt (a := i) (n := n + 1) (k := .i64) hlt⟩
              rw [List.take_succ_eq_append_getElem hil, List.drop_append_of_le_length (by rw [List.length_take]; omega), List.mem_append, List.mem_singleton]
              rintro (h | h)
              · exact HNO.out h
              · exact HNE.out h.symm
        · omega
      · have g2 : decide ((i : Int) ≤ (n : Int)) = false := decide_eq_false (by omega)
        have g2' : decide (i ≤ n) = false := decide_eq_false hin
        rcases HC.out with ⟨h1, _⟩ | ⟨_, hdone⟩
        · omega
        · have HD := Lib.hid hdone
          clear hdone HC
          obtain ⟨lA, lc, rfl, _⟩ := HL.out.sts
          obtain ⟨q, hq⟩ : ∃ q, l.length = q := ⟨_, rfl⟩
          have HQ := Lib.hid hq
          rw [hq]
          by_cases hb2 : 4096 < q
          · have g3 : decide ((q : Int) > 4096) = true := decide_eq_true (by omega)
            have g3' : decide (4096 < q) = true := decide_eq_true hb2
            go_wp2
            go_ret3
            exact ⟨[], _, 2, 0, rfl, by rw [HRS.out, HD.out, if_neg (by simp), if_pos (by rw [List.length_map, HQ.out]; exact hb2)]; rfl, LsR.nil _ _, HBE.out⟩
          · have g3 : decide ((q : Int) > 4096) = false := decide_eq_false (by omega)
            have g3' : decide (4096 < q) = false := decide_eq_false hb2
            go_wp2
            go_ret3
            exact ⟨l, _, 0, 0, rfl, by rw [HRS.out, HD.out, if_neg (by simp), if_neg (by rw [List.length_map, HQ.out]; exact hb2)], by rw [← HQ.out]; exact HL.out, HBE.out⟩
end Go.Proofs.YtjofegjiakjjhaaDoor
