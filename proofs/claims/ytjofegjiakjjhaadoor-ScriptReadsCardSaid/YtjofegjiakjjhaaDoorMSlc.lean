import Derived.Test.YtjofegjiakjjhaaDoorMSsj
import Derived.Test.YtjofegjiakjjhaaDoorMSeo
import Derived.Test.YtjofegjiakjjhaaDoorMSen
import Derived.Test.YtjofegjiakjjhaaDoorMSsh
/- Script, the law ScriptTexts. -/
namespace Go.Proofs.YtjofegjiakjjhaaDoor
open Go.RowKit Go.Lib Mf

theorem add_head (g k : Nat) : (⟨g, 0, none⟩ : Addr).add k = ⟨g, k, none⟩ := by unfold Addr.add; split <;> simp_all
/-- Two steps in a block. -/
theorem sts_two {w : World} {g : Nat} {s t : St} {F G : Value} (h : Blk w g 25 (stC s F ++ stC t G)) (hf : FailsAt w w.heap.size F s.fails) (hg : FailsAt w w.heap.size G t.fails) : StsR w w.heap.size (some ⟨g, 0, none⟩) [(s, F), (t, G)] := by
  refine ⟨⟨rfl, fun _ => ⟨_, rfl, h.lt, fun j u hu => ?_⟩⟩, fun p hp => ?_⟩
  · have e : (⟨g, 0, none⟩ : Addr).add j = ⟨g, j, none⟩ := by unfold Addr.add; split <;> simp_all
    rw [e, h.cell, ← hu]
    have e2 : [(s, F), (t, G)].flatMap stL = (stC s F ++ stC t G).toList := by
      rw [Array.toList_append]; simp [stL]
    rw [e2, Array.getElem?_toList]
  · simp only [List.mem_cons, List.not_mem_nil, or_false] at hp
    rcases hp with rfl | rfl
    · exact hf
    · exact hg
def TxC (W : World) (s : St) (A : Option Addr) (n c : Nat) (v3 : Value) (wr : World) : Prop := ∃ (g : Nat) (FA : Option Addr) (Fc : Nat), v3 = .slice (some ⟨g, 0, none⟩) 2 2 ∧ StsR wr wr.heap.size (some ⟨g, 0, none⟩) [(s, .slice A n c), (nearS s, .slice FA (nearS s).fails.length Fc)] ∧ Below W.heap.size W wr
def TxL (W : World) (w2 : World) (v4 : Value) (wr : World) : Prop := ∃ i : Nat, v4 = .int .i64 i ∧ i ≤ 2 ∧ Below w2.heap.size w2 wr ∧ Below W.heap.size W wr
set_option maxRecDepth 20000 in
set_option maxHeartbeats 8000000 in
theorem scriptTexts_walk (s : St) (hs : s.ok) (A : Option Addr) (c : Nat) (hc : s.fails.length ≤ c) (hm : c ≤ maxLen) (W : World) (he : Env W) (hP : Reads W W.heap.size 1 A s.fails.length (s.fails.map Value.bool)) :
    Calls Tryd.prog 3 #[.agg (stC s (.slice A s.fails.length c))] W fun e W' => e = .returned (.bool true) ∧ Below W.heap.size W W' := by
  obtain ⟨n, hn⟩ : ∃ n, s.fails.length = n := ⟨_, rfl⟩
  have HN := Lib.hid hn
  have HP := Lib.hid hP
  have HSO := Lib.hid hs
  have HB := Lib.hid (show Blk (W.alloc (.cells (stC s (.slice A s.fails.length c)) 25)) W.heap.size 25 (stC s (.slice A s.fails.length c)) from Blk.new _ _ _)
  have HBE := Lib.hid ((Below.refl W.heap.size W).alloc (Nat.le_refl _) (.cells (stC s (.slice A s.fails.length c)) 25))
  have HE := Lib.hid (he.below HBE.out)
  have HNR := Lib.hid (fun w (hb : Below W.heap.size W w) => rnear s hs A c hc (Nat.le_trans hc hm) w ((hP.below hb).more hb.size))
  have HEW := Lib.hid he
  clear he hP hs hc
  unfold stC at HBE HE HB ⊢
  rw [hn] at HB HBE HE HNR ⊢
  clear hn
  go_enter Tryd.func3, Tryd.ntmps3
  go_upto_region 1 with fail
  generalize W.alloc _ = w1 at *
  have cs := stC_cells (show Blk w1 W.heap.size 25 (stC s (.slice A n c)) from HB.out)
  by_cases hbig : 40 < n
  · have q : decide ((n : Int) > 40) = true := decide_eq_true (by omega)
    have q' : decide (40 < n) = true := decide_eq_true hbig
    obtain ⟨c0, c1, c2, c3, c4, c5, c6, c7, c8, c9, c10, c11⟩ := cs
    go_wp2_with fail
    refine (told_any HE.out).mono ?_; rintro e wn ⟨rfl, hb⟩
    go_wp2
    go_ret
    exact ⟨rfl, HBE.out.trans (hb.mono HBE.out.size)⟩
  · have q : decide ((n : Int) > 40) = false := decide_eq_false (by omega)
    have q' : decide (40 < n) = false := decide_eq_false hbig
    go_upto_region 3 with fail
    go_cut [3] (TxC W s A n c)
    case first =>
      refine wp_region_held_drew (S := (fun w' => (w'.cell? ⟨W.heap.size, 0, none⟩ = some (.int .i64 s.kind) ∧ w'.cell? ⟨W.heap.size, 1, none⟩ = some (.int .i64 s.guest) ∧ w'.cell? ⟨W.heap.size, 2, none⟩ = some (.int .u64 s.addr) ∧ w'.cell? ⟨W.heap.size, 3, none⟩ = some (.int .i64 s.size) ∧ w'.cell? ⟨W.heap.size, 4, none⟩ = some (.int .u64 s.value) ∧ w'.cell? ⟨W.heap.size, 5, none⟩ = some (.int .i64 s.page) ∧ w'.cell? ⟨W.heap.size, 6, none⟩ = some (.bool s.on) ∧ w'.cell? ⟨W.heap.size, 7, none⟩ = some (.int .i64 s.asid) ∧ w'.cell? ⟨W.heap.size, 8, none⟩ = some (.int .i64 s.what) ∧ w'.cell? ⟨W.heap.size, 9, none⟩ = some (.int .i64 s.set) ∧ w'.cell? ⟨W.heap.size, 10, none⟩ = some (.int .i64 s.way) ∧ w'.cell? ⟨W.heap.size, 11, none⟩ = some (.slice A n c)))) (by kernel_rfl) ?_ (fun hHeld => ?_)
      · exact cs
      clear cs
      replace HB := Lib.hid (show Blk w1.drew W.heap.size 25 (stC s (.slice A n c)) from HB.out)
      replace HBE := Lib.hid (HBE.out.drew)
      generalize w1.drew = wv at *
      ((refine takeY 0 (v := ?_) rfl (by kernel_rfl) (by kernel_rfl) (by kernel_rfl) (fun _ _ _ h => h) (by rfl) (by assumption) ?_ ?_; rotate_left; · (intro w hSw; (try dsimp only at hSw); go_simp; (first | done | with_reducible rfl))))
      (try simp only [Act.put, List.setIfInBounds_toArray, List.set_cons_zero, List.set_cons_succ])
      ((refine takeY 1 (v := ?_) rfl (by kernel_rfl) (by kernel_rfl) (by kernel_rfl) (fun _ _ _ h => h) (by rfl) (by assumption) ?_ ?_; rotate_left; · (intro w hSw; (try dsimp only at hSw); go_simp; (first | done | with_reducible rfl))))
      (try simp only [Act.put, List.setIfInBounds_toArray, List.set_cons_zero, List.set_cons_succ])
      refine stepH 2 rfl (by kernel_rfl) (by rfl) (fun K hK => ?_)
      go_simp
      refine (HNR.out _ HBE.out).mono ?_; rintro e wn ⟨F', rfl, hW, hb⟩
      obtain ⟨FA, Fc, rfl⟩ := hW.form
      have HW := Lib.hid hW
      replace HB := Lib.hid (HB.out.below hb HB.out.lt)
      replace HBE := Lib.hid (HBE.out.trans (hb.mono HBE.out.size))
      clear hb hW
      (refine hK.out _ _ ?_ (fun hHeld => ?_))
      · exact stC_cells HB.out
      clear hK K
      refine stepH 3 rfl (by kernel_rfl) (by rfl) (fun K hK => ?_)
      go_simp
      have HTW := Lib.hid (show Blk (wn.alloc (.cells (stC s (.slice A n c) ++ stC (nearS s) (.slice FA (nearS s).fails.length Fc)) 25)) wn.heap.size 25 (stC s (.slice A n c) ++ stC (nearS s) (.slice FA (nearS s).fails.length Fc)) from Blk.new _ _ _)
      replace HW := Lib.hid (HW.out.alloc (.cells (stC s (.slice A n c) ++ stC (nearS s) (.slice FA (nearS s).fails.length Fc)) 25))
      replace HB := Lib.hid (HB.out.alloc (.cells (stC s (.slice A n c) ++ stC (nearS s) (.slice FA (nearS s).fails.length Fc)) 25))
      replace HBE := Lib.hid (HBE.out.alloc HBE.out.size (.cells (stC s (.slice A n c) ++ stC (nearS s) (.slice FA (nearS s).fails.length Fc)) 25))
      (refine hK.out _ _ ?_ (fun hHeld => ?_))
      · exact stC_cells HB.out
      clear hK K
      ((refine takeY 4 (v := ?_) rfl (by kernel_rfl) (by kernel_rfl) (by kernel_rfl) (fun _ _ _ h => h) (by rfl) (by assumption) ?_ ?_; rotate_left; · (intro w hSw; (try dsimp only at hSw); go_simp; (first | done | with_reducible rfl))))
      (try simp only [Act.put, List.setIfInBounds_toArray, List.set_cons_zero, List.set_cons_succ])
      refine wpAnyH_done (by kernel_rfl) ?_ _
      clear hHeld
      go_wp2
      go_meet
      have h1 : FailsAt _ _ (.slice A n c) s.fails := ⟨A, c, by rw [HN.out], (HP.out.below HBE.out).more HBE.out.size⟩
      have h2 : FailsAt _ _ (.slice FA (nearS s).fails.length Fc) (nearS s).fails := ⟨FA, Fc, rfl, Reads.of_own HW.out⟩
      exact ⟨wn.heap.size, FA, Fc, rfl, sts_two HTW.out h1 h2, HBE.out⟩
    case rest =>
      clear HB HBE cs
      obtain ⟨g, FA, Fc, rfl, hL, hbe⟩ := hcut
      have HL := Lib.hid hL
      have HBE := Lib.hid hbe
      have HE2 := Lib.hid (HEW.out.below hbe)
      have HOK := Lib.hid (show ∀ p ∈ [(s, Value.slice A n c), (nearS s, .slice FA (nearS s).fails.length Fc)], p.1.ok ∧ p.1.fails.length ≤ 1000000 from fun p hp => by
        simp only [List.mem_cons, List.not_mem_nil, or_false] at hp
        rcases hp with rfl | rfl
        · exact ⟨HSO.out, by show s.fails.length ≤ _; have := HN.out; omega⟩
        · exact ⟨(near_ok HSO.out).1, by have := (near_ok HSO.out).2; show (nearS s).fails.length ≤ _; omega⟩)
      have hl2 : [(s, Value.slice A n c), (nearS s, .slice FA (nearS s).fails.length Fc)].length = 2 := rfl
      generalize [(s, Value.slice A n c), (nearS s, .slice FA (nearS s).fails.length Fc)] = l at *
      clear hL hbe HE
      go_wp2_with fail
      go_loopw [4] (TxL W wc) (fun v _ => 2 - cntZ v)
      case atStart => exact ⟨0, rfl, by omega, Below.refl _ _, HBE.out⟩
      case round =>
        clear HBE
        obtain ⟨i, rfl, hi, hb2, hbe⟩ := hrel
        have HB2 := Lib.hid hb2
        have HBE := Lib.hid hbe
        clear hb2 hbe
        by_cases hin : i < 2
        · have g1 : decide ((i : Int) < 2) = true := decide_eq_true (by omega)
          have g1' : decide (i < 2) = true := decide_eq_true hin
          obtain ⟨⟨t, F⟩, ht⟩ : ∃ p, l[i]? = some p := ⟨_, List.getElem?_eq_getElem (by rw [hl2]; exact hin)⟩
          have HO := Lib.hid (HOK.out _ (List.mem_of_getElem? ht))
          have HT := Lib.hid ht
          obtain ⟨ad, hA, hab, hfa, hca⟩ := (HL.out.below HB2.out).cel ht
          obtain rfl : ⟨g, 0, none⟩ = ad := Option.some.inj hA
          have hin2 : (i : Int) < 2 := by omega
          rw [add_head] at hca
          unfold Cel at hca
          dsimp only at hca
          obtain ⟨c0, c1, c2, c3, c4, c5, c6, c7, c8, c9, c10, c11⟩ := hca
          obtain ⟨x, ec, hte⟩ : ∃ t' e, TextS t = (t', e) := ⟨_, _, rfl⟩
          have HTE := Lib.hid hte
          clear ht hA hte
          go_wp2_with fail
          refine (ltext t HO.out.1 _ (HE2.out.below HB2.out) (failsAt_more hfa HB2.out.size) HO.out.2).mono ?_; rintro e wn ⟨rfl, hb⟩
          rw [HTE.out]
          dsimp only
          replace HB2 := Lib.hid (HB2.out.trans (hb.mono HB2.out.size))
          replace HBE := Lib.hid (HBE.out.trans (hb.mono HBE.out.size))
          clear hb hfa c0 c1 c2 c3 c4 c5 c6 c7 c8 c9 c10 c11
          obtain ⟨ad, hA, hab, hfa, hca⟩ := (HL.out.below HB2.out).cel HT.out
          obtain rfl : ⟨g, 0, none⟩ = ad := Option.some.inj hA
          rw [add_head] at hca
          unfold Cel at hca
          dsimp only at hca
          obtain ⟨c0, c1, c2, c3, c4, c5, c6, c7, c8, c9, c10, c11⟩ := hca
          clear hA
          go_wp2_with fail
          refine (rtext t HO.out.1 _ _ (failsAt_more hfa HB2.out.size) HO.out.2).mono ?_; rintro e wn2 ⟨rfl, hb⟩
          rw [HTE.out]
          dsimp only
          replace HB2 := Lib.hid (HB2.out.trans (hb.mono HB2.out.size))
          replace HBE := Lib.hid (HBE.out.trans (hb.mono HBE.out.size))
          clear hb hfa c0 c1 c2 c3 c4 c5 c6 c7 c8 c9 c10 c11
          have q1 : (x == x) = true := beq_self_eq_true _
          have q2 : (ec == ec) = true := beq_self_eq_true _
          go_wp2
          exact ⟨⟨i + 1, by go_num, by omega, HB2.out, HBE.out⟩, by simp [cntZ]; omega⟩
        · obtain rfl : i = 2 := by omega
          go_wp2_with fail
          refine (told_any (HE2.out.below HB2.out)).mono ?_; rintro e wn ⟨rfl, hb⟩
          go_wp2
          go_ret
          exact ⟨rfl, HBE.out.trans (hb.mono HBE.out.size)⟩
end Go.Proofs.YtjofegjiakjjhaaDoor
