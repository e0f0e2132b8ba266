import Derived.Test.YtjofegjiakjjhaaDoorMSsf
import Derived.Test.YtjofegjiakjjhaaDoorMSrz
/- Script: steps as lines: Print of the document and of the program. -/
namespace Go.Proofs.YtjofegjiakjjhaaDoor
open Go.RowKit Go.Lib Mf

theorem textS_len {s : St} {t : Bs} (hs : s.wf) (h : TextS s = (t, 0)) : t.length ≤ 6000 := by
  obtain ⟨n, w0, fs, ws, h1, h2, h3, h4, h5, h6, h7, h8, rfl⟩ := textS_ok h
  obtain ⟨w0', fs', hk, _, _, hw, hf⟩ := kd_at h2 h3
  rw [h4] at hk
  injection hk with hk
  injection hk with e1 e2
  subst e1 e2
  have h9 := join_len hs h5 w0
  have : fs.length * (21 + s.fails.length) ≤ 5 * 1021 := Nat.mul_le_mul hf (by omega)
  omega
def prA (l : List St) : Bs := l.flatMap fun s => (TextS s).1 ++ [10]
def bad1 (l : List St) : Option Int := (l.find? fun s => (TextS s).2 != 0).map fun s => (TextS s).2
/-- Steps as lines. -/
def PrintS (l : List St) : Bs × Int := if 4096 < l.length then ([], 2) else match bad1 l with | some e => ([], e) | none => (prA l, 0)
theorem bad1_at {l : List St} {i : Nat} {s : St} (hi : l[i]? = some s) (hb : ∀ j t, j < i → l[j]? = some t → (TextS t).2 = 0) (he : (TextS s).2 ≠ 0) : bad1 l = some (TextS s).2 := by
  unfold bad1
  have : l.find? (fun s => (TextS s).2 != 0) = some s := by
    obtain ⟨hl, rfl⟩ := List.getElem?_eq_some_iff.1 hi
    rw [List.find?_eq_some_iff_getElem]
    refine ⟨by simpa using he, i, hl, rfl, fun j hj => ?_⟩
    have := hb j l[j] hj (List.getElem?_eq_getElem (by omega))
    simp [this]
  rw [this]; rfl
theorem bad1_none {l : List St} (hb : ∀ (j : Nat) (t : St), l[j]? = some t → (TextS t).2 = 0) : bad1 l = none := by
  unfold bad1
  rw [List.find?_eq_none.2]
  · rfl
  · intro s hs
    obtain ⟨j, hj⟩ := List.getElem?_of_mem hs
    simp [hb j s hj]
theorem prA_snoc {l : List St} {i : Nat} {s : St} {t : Bs} (hi : l[i]? = some s) (ht : TextS s = (t, 0)) : prA (l.take (i + 1)) = (prA (l.take i) ++ t) ++ [10] := by
  obtain ⟨hl, rfl⟩ := List.getElem?_eq_some_iff.1 hi
  unfold prA
  rw [List.take_succ_eq_append_getElem hl, List.flatMap_append]
  simp [ht]
theorem Bld.below {B b : Nat} {l : Bs} {w w' : World} (h : Bld B b l w) (hb : Below w.heap.size w w') : Bld B b l w' := by
  rcases h with ⟨hB, v, hc, ho, hn⟩ | ⟨hB, v, hc, ho, hn⟩
  · exact .inl ⟨hB, v, Blk.below (w := w) hc hb (Blk.lt hc), own_below ho hb, hn⟩
  · exact .inr ⟨hB, v, Blk.below (w := w) hc hb (Blk.lt hc), own_below ho hb, hn⟩
def PrR (w : World) (l : List St) (v5 v4 : Value) (wr : World) : Prop := ∃ i : Nat, v5 = .int .i64 i ∧ i ≤ l.length ∧ v4 = bv (prA (l.take i)) ∧ (prA (l.take i)).length ≤ i * 7000 ∧ (∀ j t, j < i → l[j]? = some t → (TextS t).2 = 0) ∧ Below w.heap.size w wr
def PrP (w : World) (l : List St) (v14 : Value) (wr : World) : Prop := ∃ i : Nat, v14 = .int .i64 i ∧ i ≤ l.length ∧ Bld w.heap.size w.heap.size (prA (l.take i)) wr ∧ (prA (l.take i)).length ≤ i * 7000 ∧ (∀ j t, j < i → l[j]? = some t → (TextS t).2 = 0) ∧ Below w.heap.size w wr
def PrintIs (l : List St) (w : World) (e : Ending) (w' : World) : Prop := e = .returned (.tuple #[bv (PrintS l).1, .int .i64 (PrintS l).2]) ∧ Below w.heap.size w w'
set_option maxRecDepth 20000 in
set_option maxHeartbeats 8000000 in
theorem rprint (l : List (St × Value)) (A : Option Addr) (c1 : Nat) (w : World) (hl : StsR w w.heap.size A l) (hok : ∀ p ∈ l, p.1.ok) (hfl : ∀ p ∈ l, p.1.fails.length ≤ 1000000) :
    Calls Tryd.prog 19 #[.slice A l.length c1] w (PrintIs (l.map (·.1)) w) := by
  obtain ⟨n, hn⟩ : ∃ n, l.length = n := ⟨_, rfl⟩
  have HN := Lib.hid hn
  have HL := Lib.hid hl
  rw [hn]
  clear hn hl
  by_cases hbig : 4096 < n
  · have HE := Lib.hid (show PrintS (l.map (·.1)) = ([], 2) from by unfold PrintS; rw [if_pos (by rw [List.length_map, HN.out]; exact hbig)])
    have g1 : decide ((n : Int) > 4096) = true := decide_eq_true (by omega)
    have g1' : decide (4096 < n) = true := decide_eq_true hbig
    go_enter Tryd.func19, Tryd.ntmps19
    go_wp2
    go_ret2
    exact ⟨by rw [HE.out]; rfl, Below.refl _ _⟩
  · have g1 : decide ((n : Int) > 4096) = false := decide_eq_false (by omega)
    have g1' : decide (4096 < n) = false := decide_eq_false hbig
    go_enter Tryd.func19, Tryd.ntmps19
    go_wp2_with fail
    go_loopw [5, 4] (PrR w (l.map (·.1))) (fun v _ _ => n - cntZ v)
    case atStart => exact ⟨0, rfl, Nat.zero_le _, rfl, by simp [prA], fun j t hj => by omega, Below.refl _ _⟩
    case round =>
      obtain ⟨i, rfl, hi, rfl, hlen, hal, hbe⟩ := hrel
      have HBE := Lib.hid hbe
      have HAL := Lib.hid hal
      have HLE := Lib.hid hlen
      rw [List.length_map, HN.out] at hi
      clear hbe hal hlen
      by_cases hin : i < n
      · have g2 : decide ((i : Int) < (n : Int)) = true := by simp; exact hin
        have g2' : decide (i < n) = true := by simp; exact hin
        obtain ⟨⟨s, F⟩, hs⟩ : ∃ p, l[i]? = some p := ⟨_, List.getElem?_eq_getElem (by rw [HN.out]; exact hin)⟩
        have HFA9 := Lib.hid (HL.out.fl _ (List.mem_of_getElem? hs))
        obtain ⟨ad, rfl, hab, hfa, hca⟩ := (HL.out.below HBE.out).cel hs
        obtain ⟨FA, Fc, rfl, _⟩ := hfa
        obtain ⟨c0, c1, c2, c3, c4, c5, c6, c7, c8, c9, c10, c11⟩ := hca
        have HS := Lib.hid (show (l.map (·.1))[i]? = some s from by rw [List.getElem?_map, hs]; rfl)
        have HOK := Lib.hid (hok _ (List.mem_of_getElem? hs))
        have HFL := Lib.hid (hfl _ (List.mem_of_getElem? hs))
        obtain ⟨t, ec, hte⟩ : ∃ t e, TextS s = (t, e) := ⟨_, _, rfl⟩
        have HTE := Lib.hid hte
        clear hs hte
        go_wp2_with fail
        refine (rtext s HOK.out _ _ (failsAt_more (failsAt_below HFA9.out HBE.out) HBE.out.size) HFL.out).mono ?_; rintro e wn ⟨rfl, hb⟩
        rw [HTE.out]
        dsimp only
        replace HBE := Lib.hid (HBE.out.trans (hb.mono HBE.out.size))
        clear hb c0 c1 c2 c3 c4 c5 c6 c7 c8 c9 c10 c11
        by_cases hec : ec = 0
        · have q0 : (ec != 0) = false := bne_eq_false_iff_eq.2 hec
          have HT0 := Lib.hid (show TextS s = (t, 0) from by rw [HTE.out, hec])
          have HTL := Lib.hid (textS_len HOK.out.towf HT0.out)
          obtain ⟨p, hp⟩ : ∃ p, prA ((l.map (·.1)).take i) = p := ⟨_, rfl⟩
          have HP := Lib.hid hp
          rw [hp] at HLE ⊢
          have l3 : ¬ 9223372036854775807 < p.length + t.length := by have := HLE.out; have := HTL.out; omega
          have l4 : ¬ 9223372036854775807 < p.length + t.length + 1 := by have := HLE.out; have := HTL.out; omega
          clear hp hec
          go_wp2
          refine ⟨⟨i + 1, by go_num, by rw [List.length_map, HN.out]; omega, ?_, ?_, fun j t' hj hjt => ?_, HBE.out⟩, cntZ_lt hin⟩
          · rw [prA_snoc HS.out HT0.out, HP.out]
            unfold bv
            rw [← bv_app, ← bv_app]
          · rw [prA_snoc HS.out HT0.out, HP.out]
            simp only [List.length_append, List.length_cons, List.length_nil]
            have := HLE.out
            have := HTL.out
            omega
          · by_cases e : j = i
            · subst e
              rw [HS.out] at hjt
              injection hjt with hjt
              subst hjt
              rw [HT0.out]
            · exact HAL.out j t' (by omega) hjt
        · have q0 : (ec != 0) = true := bne_iff_ne.2 hec
          have HE := Lib.hid (show PrintS (l.map (·.1)) = ([], ec) from by
            unfold PrintS
            rw [if_neg (by rw [List.length_map, HN.out]; exact hbig), bad1_at HS.out HAL.out (by rw [HTE.out]; exact hec), HTE.out])
          clear hec
          go_wp2
          go_ret2
          exact ⟨by rw [HE.out]; rfl, HBE.out⟩
      · obtain rfl : i = n := by omega
        have g2 : decide ((i : Int) < (i : Int)) = false := by simp
        have HE := Lib.hid (show PrintS (l.map (·.1)) = (prA (l.map (·.1)), 0) from by
          unfold PrintS
          rw [if_neg (by rw [List.length_map, HN.out]; exact hbig), bad1_none (fun j t hj => HAL.out j t (by have := (List.getElem?_eq_some_iff.1 hj).1; rw [List.length_map, HN.out] at this; exact this) hj)])
        have hti : (l.map (·.1)).take i = l.map (·.1) := List.take_of_length_le (by rw [List.length_map, HN.out]; exact Nat.le_refl _)
        rw [hti]
        go_wp2
        go_ret2
        exact ⟨by rw [HE.out]; rfl, HBE.out⟩
set_option maxRecDepth 20000 in
set_option maxHeartbeats 8000000 in
theorem lprint (l : List (St × Value)) (A : Option Addr) (c1 : Nat) {w : World} (he : Env w) (hl : StsR w w.heap.size A l) (hok : ∀ p ∈ l, p.1.ok) (hfl : ∀ p ∈ l, p.1.fails.length ≤ 1000000) :
    Calls Tryd.prog 18 #[.slice A l.length c1] w (PrintIs (l.map (·.1)) w) := by
  obtain ⟨n, hn⟩ : ∃ n, l.length = n := ⟨_, rfl⟩
  have HN := Lib.hid hn
  have HL := Lib.hid hl
  rw [hn]
  clear hn hl
  by_cases hbig : 4096 < n
  · have HE := Lib.hid (show PrintS (l.map (·.1)) = ([], 2) from by unfold PrintS; rw [if_pos (by rw [List.length_map, HN.out]; exact hbig)])
    have g1 : decide ((n : Int) > 4096) = true := decide_eq_true (by omega)
    have g1' : decide (4096 < n) = true := decide_eq_true hbig
    go_enter Tryd.func18, Tryd.ntmps18
    go_wp2
    go_ret2
    exact ⟨by rw [HE.out]; rfl, Below.refl _ _⟩
  · have g1 : decide ((n : Int) > 4096) = false := decide_eq_false (by omega)
    have g1' : decide (4096 < n) = false := decide_eq_false hbig
    have HB0 := Lib.hid (Bld.fresh w)
    have HBE := Lib.hid ((Below.refl w.heap.size w).alloc (Nat.le_refl _) (.cells #[.pointer none, .slice none 0 0] 78))
    have HEV := Lib.hid he
    clear he
    go_enter Tryd.func18, Tryd.ntmps18
    go_wp2_with fail
    go_loopw [14] (PrP w (l.map (·.1))) (fun v _ => n - cntZ v)
    case atStart => exact ⟨0, rfl, Nat.zero_le _, HB0.out, by simp [prA], fun j t hj => by omega, HBE.out⟩
    case round =>
      clear HB0 HBE
      obtain ⟨i, rfl, hi, hB, hlen, hal, hbe⟩ := hrel
      have HBE := Lib.hid hbe
      have HAL := Lib.hid hal
      have HLE := Lib.hid hlen
      have HB := Lib.hid hB
      rw [List.length_map, HN.out] at hi
      clear hbe hal hlen hB
      by_cases hin : i < n
      · have g2 : decide ((i : Int) < (n : Int)) = true := by simp; exact hin
        have g2' : decide (i < n) = true := by simp; exact hin
        obtain ⟨⟨s, F⟩, hs⟩ : ∃ p, l[i]? = some p := ⟨_, List.getElem?_eq_getElem (by rw [HN.out]; exact hin)⟩
        have HFA9 := Lib.hid (HL.out.fl _ (List.mem_of_getElem? hs))
        obtain ⟨ad, rfl, hab, hfa, hca⟩ := (HL.out.below HBE.out).cel hs
        obtain ⟨FA, Fc, rfl, _⟩ := hfa
        obtain ⟨c0, c1, c2, c3, c4, c5, c6, c7, c8, c9, c10, c11⟩ := hca
        have HS := Lib.hid (show (l.map (·.1))[i]? = some s from by rw [List.getElem?_map, hs]; rfl)
        have HOK := Lib.hid (hok _ (List.mem_of_getElem? hs))
        have HFL := Lib.hid (hfl _ (List.mem_of_getElem? hs))
        obtain ⟨t, ec, hte⟩ : ∃ t e, TextS s = (t, e) := ⟨_, _, rfl⟩
        have HTE := Lib.hid hte
        clear hs hte
        go_upto_region 7 with fail
        have hbx := (Below.refl wr.heap.size wr).alloc (Nat.le_refl _) (.cells (stC s (.slice FA s.fails.length Fc)) 25)
        have HC := Lib.hid (show Blk (wr.alloc (.cells (stC s (.slice FA s.fails.length Fc)) 25)) wr.heap.size 25 (stC s (.slice FA s.fails.length Fc)) from Blk.new _ _ _)
        replace HB := Lib.hid (HB.out.below hbx)
        replace HBE := Lib.hid (HBE.out.trans (hbx.mono HBE.out.size))
        clear hbx c0 c1 c2 c3 c4 c5 c6 c7 c8 c9 c10 c11
        unfold stC at HB HBE
        have HC9 := HC.out
        unfold stC at HC9
        generalize wr.alloc (.cells #[.int .i64 s.kind, .int .i64 s.guest, .int .u64 s.addr, .int .i64 s.size, .int .u64 s.value, .int .i64 s.page, .bool s.on, .int .i64 s.asid, .int .i64 s.what, .int .i64 s.set, .int .i64 s.way, .slice FA s.fails.length Fc] 25) = wa at *
        have HC := Lib.hid (show Blk wa wr.heap.size 25 (stC s (.slice FA s.fails.length Fc)) from HC9)
        clear HC9
        have cs1 := stC_cells HC.out
        have HEW := Lib.hid (HEV.out.low HBE.out HEV.out.size)
        go_wp2_with fail
        refine (ltext s HOK.out _ HEW.out (failsAt_more (failsAt_below HFA9.out HBE.out) HBE.out.size) HFL.out).mono ?_; rintro e wn ⟨rfl, hb⟩
        rw [HTE.out]
        dsimp only
        replace HB := Lib.hid (HB.out.below hb)
        replace HBE := Lib.hid (HBE.out.trans (hb.mono HBE.out.size))
        clear hb cs1 HC
        by_cases hec : ec = 0
        · have q0 : (ec != 0) = false := bne_eq_false_iff_eq.2 hec
          have HT0 := Lib.hid (show TextS s = (t, 0) from by rw [HTE.out, hec])
          have HTL := Lib.hid (textS_len HOK.out.towf HT0.out)
          obtain ⟨p, hp⟩ : ∃ p, prA ((l.map (·.1)).take i) = p := ⟨_, rfl⟩
          have HP := Lib.hid hp
          rw [hp] at HLE HB
          clear hp hec
          go_wp2_with fail
          refine (lbws HB.out t (by have := HLE.out; have := HTL.out; omega) HBE.out.size).mono ?_; rintro e w4 ⟨rfl, hB4, hb4⟩
          replace HB := Lib.hid hB4
          replace HBE := Lib.hid (HBE.out.trans hb4)
          clear hB4 hb4
          go_wp2_with fail
          refine (lbwb HB.out 10 (by rw [List.length_append]; have := HLE.out; have := HTL.out; omega) HBE.out.size).mono ?_; rintro e w5 ⟨rfl, hB4, hb4⟩
          replace HB := Lib.hid hB4
          replace HBE := Lib.hid (HBE.out.trans hb4)
          clear hB4 hb4
          go_wp2
          refine ⟨⟨i + 1, by go_num, by rw [List.length_map, HN.out]; omega, ?_, ?_, fun j t' hj hjt => ?_, HBE.out⟩, cntZ_lt hin⟩
          · rw [prA_snoc HS.out HT0.out, HP.out]
            exact HB.out
          · rw [prA_snoc HS.out HT0.out, HP.out]
            simp only [List.length_append, List.length_cons, List.length_nil]
            have := HLE.out
            have := HTL.out
            omega
          · by_cases e : j = i
            · subst e
              rw [HS.out] at hjt
              injection hjt with hjt
              subst hjt
              rw [HT0.out]
            · exact HAL.out j t' (by omega) hjt
        · have q0 : (ec != 0) = true := bne_iff_ne.2 hec
          have HE := Lib.hid (show PrintS (l.map (·.1)) = ([], ec) from by
            unfold PrintS
            rw [if_neg (by rw [List.length_map, HN.out]; exact hbig), bad1_at HS.out HAL.out (by rw [HTE.out]; exact hec), HTE.out])
          clear hec
          go_wp2
          go_ret2
          exact ⟨by rw [HE.out]; rfl, HBE.out⟩
      · obtain rfl : i = n := by omega
        have g2 : decide ((i : Int) < (i : Int)) = false := by simp
        have HE := Lib.hid (show PrintS (l.map (·.1)) = (prA (l.map (·.1)), 0) from by
          unfold PrintS
          rw [if_neg (by rw [List.length_map, HN.out]; exact hbig), bad1_none (fun j t hj => HAL.out j t (by have := (List.getElem?_eq_some_iff.1 hj).1; rw [List.length_map, HN.out] at this; exact this) hj)])
        have hti : (l.map (·.1)).take i = l.map (·.1) := List.take_of_length_le (by rw [List.length_map, HN.out]; exact Nat.le_refl _)
        rw [hti] at HB
        go_wp2_with fail
        refine (lbs HB.out HBE.out.size).mono ?_; rintro e w9 ⟨rfl, hb⟩
        go_wp2
        go_ret2
        exact ⟨by rw [HE.out]; rfl, HBE.out.trans hb⟩
end Go.Proofs.YtjofegjiakjjhaaDoor
