/- HeatOrders' walk. -/
import Derived.Test.YtghniddefhdmmaaH2c0
namespace Go.Proofs.Ytghniddefhdmmaa
open Go.RowKit Flo

theorem infoB : (Try.prog.info? 4).map (fun i => (i.zero, i.size, i.bytes)) = some (some (.bool false), 1, 1) := by kernel_rfl
theorem so40 (n : Nat) (h : n ≤ 40) : StableOk n := fun base g k cap hp hr hs d w h1 hm hne hix hrise hn => stableOk40 base g k cap hp hr hs d w h1 hm hne hix hrise (by omega)

/-- The three rows at work. -/
structure OrdM (w : World) (g gs n : Nat) (A : Option Addr) (cc : Nat) (hs : List (Int × Int)) (d : List Int) (sb : List Bool) (wr : World) : Prop where
  a : wr.ownsRow w.heap.size 22 1 (.slice A n cc) n (hs.map hv)
  r : wr.ownsRow w.heap.size 3 1 (.slice (some ⟨g, 0, none⟩) n n) n (d.map (Value.int .i64))
  s : wr.ownsRow w.heap.size 4 1 (.slice (some ⟨gs, 0, none⟩) n n) n (sb.map Value.bool)
  old : Below w.heap.size w wr

theorem own_far {w : World} {b1 b2 s1 s2 n1 n2 c2 g2 : Nat} {e1 e2 : TypeId} {v : Value} {xs ys : List Value} (h1 : w.ownsRow b1 e1 s1 v n1 xs) (h2 : w.ownsRow b2 e2 s2 (.slice (some ⟨g2, 0, none⟩) n2 c2) n2 ys) (hne : e1 ≠ e2) : v.ownBlock = none ∨ v.ownBlock ≠ some g2 := by
  rcases h1.2 with ⟨rfl, _⟩ | ⟨g', cap, cur, rfl, _⟩
  · exact .inl rfl
  · exact .inr fun e => own_ne_own h1 h2 hne (Option.some.inj e)
theorem own_addr {w : World} {b e s n c : Nat} {A : Option Addr} {xs : List Value} (h : w.ownsRow b e s (.slice A n c) n xs) (hn : 0 < n) : ∃ ga, A = some ⟨ga, 0, none⟩ := by
  rcases h.2 with ⟨h1, h0⟩ | ⟨g', cap, cur, h1, _⟩
  · omega
  · injection h1 with h1; exact ⟨g', h1⟩

section
variable {w wr : World} {g gs n cc ga : Nat} {A : Option Addr} {hs : List (Int × Int)} {d : List Int} {sb : List Bool}
theorem OrdM.rank (h : OrdM w g gs n A cc hs d sb wr) {k : Nat} (hk : k < n) (hl : d.length = n) : wr.cell? ⟨g, k, none⟩ = some (.int .i64 (ele d k)) := by
  rw [h.r.cellAt k (by omega), List.getElem?_map, ele_some (by omega)]; rfl
theorem OrdM.heat (h : OrdM w g gs n (some ⟨ga, 0, none⟩) cc hs d sb wr) {k : Nat} (hk : k < n) (hl : hs.length = n) : wr.cell? ⟨ga, k, none⟩ = some (hv (hAt hs k)) := by
  rw [h.a.cellAt k (by omega), List.getElem?_map]
  unfold hAt
  rw [List.getD_eq_getElem?_getD, List.getElem?_eq_getElem (by omega)]; rfl
theorem OrdM.mark (h : OrdM w g gs n A cc hs d sb wr) (y : Nat) : OrdM w g gs n A cc hs d (sb.set y true) (wr.setCell ⟨gs, y, none⟩ (.bool true)) := by
  have hsg : wr.grownBy (wr.setCell ⟨gs, y, none⟩ (.bool true)) (some gs) := only_setCell (World.grownBy.refl wr _) (.inl rfl) _
  refine ⟨h.a.kept hsg (own_far h.a h.s (by decide)), h.r.kept hsg (own_far h.r h.s (by decide)), ?_, h.old.grown hsg h.old.size (fun _ e => by cases e; exact (h.s.lt _ rfl).1)⟩
  have := (h.s.stored y (.bool true)).1
  rw [List.map_set]; exact this
theorem OrdM.drewN (h : OrdM w g gs n A cc hs d sb wr) (k : Nat) : OrdM w g gs n A cc hs d sb (wr.drewN k) := ⟨h.a, h.r, h.s, below_drewN h.old k⟩
end

/-- The rounds so far. -/
def OrdR (w : World) (g gs n : Nat) (A : Option Addr) (cc : Nat) (hs : List (Int × Int)) (d : List Int) (bs : List Bool) (v9 v10 : Value) (wr : World) : Prop := ∃ (i : Nat) (sb : List Bool), v9 = .int .i64 (coldV bs (d.take i)) ∧ v10 = .int .i64 i ∧ i ≤ n ∧ sb.length = n ∧
  (∀ k, i ≤ k → k < n → ∃ y : Nat, ele d k = y ∧ sb[y]? = some false) ∧ OrdM w g gs n A cc hs d sb wr

def OrdC (f : Int) (w4 : World) (v : Value) (wr : World) : Prop := v = .int .i64 f ∧ ∃ k, wr = w4.drewN k

theorem coldV_range {bs : List Bool} : ∀ {l : List Int}, (∀ y ∈ l, 0 ≤ y) → coldV bs l = -1 ∨ 0 ≤ coldV bs l
  | [], _ => .inl rfl
  | y :: l, h => by
    show (if bel bs y.toNat then coldV bs l else y) = -1 ∨ 0 ≤ (if bel bs y.toNat then coldV bs l else y)
    have h0 := h y (List.mem_cons_self ..)
    cases bel bs y.toNat
    · exact .inr h0
    · exact coldV_range (fun z hz => h z (List.mem_cons_of_mem _ hz))

/-- What the first loop leaves. -/
def BldC (w : World) (v5 : Value) (wr : World) : Prop := ∃ hs : List (Int × Int), hs.length ≤ 40 ∧ (∀ x ∈ hs, Sml x) ∧ wr.ownsRow w.heap.size 22 1 v5 hs.length (hs.map hv) ∧ Below w.heap.size w wr

set_option maxRecDepth 100000 in
set_option maxHeartbeats 8000000 in
theorem heatOrders_walk (A0 A1 : Option Addr) (n0 n1 c0 c1 : Nat) (xs0 xs1 : List Value) (w : World) (hr0 : Reads w w.heap.size 1 A0 n0 xs0) (hx0 : ∀ u ∈ xs0, ∃ i, u = .int .i64 i ∧ (Lit.int .i64 i).wf = true)
    (hr1 : Reads w w.heap.size 1 A1 n1 xs1) (hx1 : ∀ j u k, xs1[j]? = some u → ([CK.b])[j % ([CK.b]).length]? = some k → CellOk k u) :
    Calls Try.prog 4 #[.slice A0 n0 c0, .slice A1 n1 c1] w fun e w' => e = .returned (.bool true) ∧ Below w.heap.size w w' := by
  obtain ⟨ls, rfl⟩ := hints_of hx0
  obtain ⟨bs, rfl⟩ := hbools_of_cells hx1
  obtain ⟨i0, hi0, hz0, hz1, hz2⟩ := info_parts infoC
  obtain ⟨i1, ki0, kz0, kz1, kz2⟩ := info_parts infoB
  have HR0 := Lib.hid hr0
  have HR1 := Lib.hid hr1
  clear hx0 hx1 hr0 hr1
  go_enter Try.func4, Try.ntmps4
  go_upto_block 0 with fail
  go_cut [5] (BldC w)
  case first =>
    go_wp2_with fail
    go_loopw [5, 6] (BldR w n0) (fun _ i _ => 40 - cnt i)
    case atStart => exact ⟨0, [], rfl, Nat.zero_le _, by omega, rfl, by simp, World.ownsRow_nil _ _ _ _, Below.refl _ _⟩
    case round =>
      obtain ⟨i, hs, rfl, hin0, hi40, hlen, hsm, hown, hbel⟩ := hrel
      have HLEN := Lib.hid hlen
      have HSML := Lib.hid hsm
      have HO := Lib.hid hown
      have HB := Lib.hid hbel
      clear hlen hsm hown hbel
      by_cases h1 : i < n0
      · by_cases h2 : i < 40
        · obtain ⟨ad, u, rfl, _, hu, hc⟩ := (HR0.out.below HB.out).at_ h1
          obtain ⟨x, rfl⟩ : ∃ x : Int, u = .int .i64 x := by
            rw [List.getElem?_map] at hu
            obtain ⟨x, _, rfl⟩ := Option.map_eq_some_iff.1 hu
            exact ⟨x, rfl⟩
          have g1 : decide ((i : Int) < (n0 : Int)) = true := by simp; omega
          have g2 : decide ((i : Int) < 40) = true := by simp; omega
          clear hu
          have HCC := Lib.hid (show wr.drew.cell? (ad.add i) = some (.int .i64 x) from hc)
          have SK := Lib.hid (show ∀ w', Below w.heap.size w w' → w'.cell? (ad.add i) = some (.int .i64 x) from fun w' hb' => by
            obtain ⟨ad', u', e1, _, hu', hc'⟩ := (HR0.out.below hb').at_ h1
            obtain ⟨ad2, u2, e2, _, hu2, hc2⟩ := (HR0.out.below (below_drewN HB.out 1)).at_ h1
            cases e1
            cases e2
            rw [hc', ← hu', hu2, ← hc2]
            exact HCC.out)
          clear hc
          obtain ⟨q1, hq1, q1a, q1b⟩ := mask3 x
          obtain ⟨q2, hq2, q2a, q2b⟩ := mask3 (x / 4)
          have HA := Lib.hid (show wr.drew.ownsRow w.heap.size 22 1 u5 i (hs.map hv) from HO.out)
          have HBL := Lib.hid (show Below w.heap.size w wr.drew from below_drewN HB.out 1)
          go_wp2_with fail
          refine wp_region_held_drew (S := (fun w' => w'.cell? (ad.add i) = some (.int .i64 x))) (by kernel_rfl) ?_ (fun hHeld => ?_)
          · exact HCC.out
          generalize wr.drew = wc at *
          ((refine takeY 0 (v := ?_) rfl (by kernel_rfl) (by kernel_rfl) (by kernel_rfl) (fun _ _ _ h => h) (by rfl) (by assumption) ?_ ?_; rotate_left; · (intro w hSw; (try dsimp only at hSw); go_simp; (first | done | with_reducible rfl))))
          (try simp only [Act.put, List.setIfInBounds_toArray, List.set_cons_zero, List.set_cons_succ])
          ((refine takeY 1 (v := ?_) rfl (by kernel_rfl) (by kernel_rfl) (by kernel_rfl) (fun _ _ _ h => h) (by rfl) (by assumption) ?_ ?_; rotate_left; · (intro w hSw; (try dsimp only at hSw); go_simp; (first | done | with_reducible rfl))))
          (try simp only [Act.put, List.setIfInBounds_toArray, List.set_cons_zero, List.set_cons_succ])
          ((refine takeY 2 (v := ?_) rfl (by kernel_rfl) (by kernel_rfl) (by kernel_rfl) (fun _ _ _ h => h) (by rfl) (by assumption) ?_ ?_; rotate_left; · (intro w hSw; (try dsimp only at hSw); go_simp; (first | done | with_reducible rfl))))
          (try simp only [Act.put, List.setIfInBounds_toArray, List.set_cons_zero, List.set_cons_succ])
          ((refine takeY 3 (v := ?_) rfl (by kernel_rfl) (by kernel_rfl) (by kernel_rfl) (fun _ _ _ h => h) (by rfl) (by assumption) ?_ ?_; rotate_left; · (intro w hSw; (try dsimp only at hSw); go_simp; (first | done | with_reducible rfl))))
          (try simp only [Act.put, List.setIfInBounds_toArray, List.set_cons_zero, List.set_cons_succ])
          ((refine takeY 4 (v := ?_) rfl (by kernel_rfl) (by kernel_rfl) (by kernel_rfl) (fun _ _ _ h => h) (by rfl) (by assumption) ?_ ?_; rotate_left; · (intro w hSw; (try dsimp only at hSw); go_simp; (first | done | with_reducible rfl))))
          (try simp only [Act.put, List.setIfInBounds_toArray, List.set_cons_zero, List.set_cons_succ])
          ((refine takeY 5 (v := ?_) rfl (by kernel_rfl) (by kernel_rfl) (by kernel_rfl) (fun _ _ _ h => h) (by rfl) (by assumption) ?_ ?_; rotate_left; · (intro w hSw; (try dsimp only at hSw); go_simp; (first | done | with_reducible rfl))))
          (try simp only [Act.put, List.setIfInBounds_toArray, List.set_cons_zero, List.set_cons_succ])
          ((refine takeY 6 (v := ?_) rfl (by kernel_rfl) (by kernel_rfl) (by kernel_rfl) (fun _ _ _ h => h) (by rfl) (by assumption) ?_ ?_; rotate_left; · (intro w hSw; (try dsimp only at hSw); go_simp; (first | done | with_reducible rfl))))
          (try simp only [Act.put, List.setIfInBounds_toArray, List.set_cons_zero, List.set_cons_succ])
          ((refine takeY 7 (v := ?_) rfl (by kernel_rfl) (by kernel_rfl) (by kernel_rfl) (fun _ _ _ h => h) (by rfl) (by assumption) ?_ ?_; rotate_left; · (intro w hSw; (try dsimp only at hSw); go_simp; (first | done | with_reducible rfl))))
          (try simp only [Act.put, List.setIfInBounds_toArray, List.set_cons_zero, List.set_cons_succ])
          ((refine takeY 8 (v := ?_) rfl (by kernel_rfl) (by kernel_rfl) (by kernel_rfl) (fun _ _ _ h => h) (by rfl) (by assumption) ?_ ?_; rotate_left; · (intro w hSw; (try dsimp only at hSw); go_simp; (first | done | with_reducible rfl))))
          (try simp only [Act.put, List.setIfInBounds_toArray, List.set_cons_zero, List.set_cons_succ])
          ((refine takeY 9 (v := ?_) rfl (by kernel_rfl) (by kernel_rfl) (by kernel_rfl) (fun _ _ _ h => h) (by rfl) (by assumption) ?_ ?_; rotate_left; · (intro w hSw; (try dsimp only at hSw); go_simp; (first | done | with_reducible rfl))))
          (try simp only [Act.put, List.setIfInBounds_toArray, List.set_cons_zero, List.set_cons_succ])
          ((refine takeY 10 (v := ?_) rfl (by kernel_rfl) (by kernel_rfl) (by kernel_rfl) (fun _ _ _ h => h) (by rfl) (by assumption) ?_ ?_; rotate_left; · (intro w hSw; (try dsimp only at hSw); go_simp; (first | done | with_reducible rfl))))
          (try simp only [Act.put, List.setIfInBounds_toArray, List.set_cons_zero, List.set_cons_succ])
          ((refine takeY 11 (v := ?_) rfl (by kernel_rfl) (by kernel_rfl) (by kernel_rfl) (fun _ _ _ h => h) (by rfl) (by assumption) ?_ ?_; rotate_left; · (intro w hSw; (try dsimp only at hSw); go_simp; (first | done | with_reducible rfl))))
          (try simp only [Act.put, List.setIfInBounds_toArray, List.set_cons_zero, List.set_cons_succ])
          refine stepH 12 rfl (by kernel_rfl) (by rfl) (fun K hK => ?_)
          go_simp
          (with_reducible refine (make_any _ _ _).mono ?_)
          rintro e w1 ⟨rfl, rfl⟩
          (refine hK.out _ _ hHeld (fun hHeld => ?_))
          clear hK K
          refine stepH 13 rfl (by kernel_rfl) (by rfl) (fun K hK => ?_)
          go_simp
          (refine hK.out _ _ ?_ (fun hHeld => ?_))
          · exact SK.out _ (HBL.out.alloc HBL.out.size _)
          clear hK K
          have HC := Lib.hid (reads_one1 wc (.complex .f64 (F q1) (F q2)) 22)
          replace HBL := Lib.hid (HBL.out.alloc HBL.out.size (.cells #[.complex .f64 (F q1) (F q2)] 22))
          replace HA := Lib.hid (HA.out.alloc (.cells #[.complex .f64 (F q1) (F q2)] 22))
          generalize hwn : wc.alloc (.cells #[.complex .f64 (F q1) (F q2)] 22) = wn at *
          clear hwn
          generalize hgc : wc.heap.size = gc at *
          clear hgc
          obtain ⟨wc, rfl⟩ : ∃ x : World, x = wn := ⟨_, rfl⟩
          refine stepH 14 rfl (by kernel_rfl) (by rfl) (fun K hK => ?_)
          (refine wp_append_any _ (.tmp 27) (.tmp 40) _ rfl w.heap.size 22 i0 _ 1 16 Try.underlying33 hi0 hz0 hz1 hz2 rfl (by omega) _ i _ rfl HA.out _ (some ⟨gc, 0, none⟩) 1 _ [.complex .f64 (F q1) (F q2)] rfl HC.out (by simp; rfl) (by unfold maxLen; omega) (by omega) HBL.out.size ?_; intro v2 w3 hown2 hg2 hat2)
          replace HBL := Lib.hid (HBL.out.grown hg2 HBL.out.size (fun g hg => (HA.out.lt g hg).1))
          (refine hK.out _ _ (SK.out _ HBL.out) (fun hHeld => ?_))
          clear hK K hg2 hat2 HA
          have HA := Lib.hid hown2
          clear hown2
          ((refine takeY 15 (v := ?_) rfl (by kernel_rfl) (by kernel_rfl) (by kernel_rfl) (fun _ _ _ h => h) (by rfl) (by assumption) ?_ ?_; rotate_left; · (intro w hSw; (try dsimp only at hSw); go_simp; (first | done | with_reducible rfl))))
          (try simp only [Act.put, List.setIfInBounds_toArray, List.set_cons_zero, List.set_cons_succ])
          refine wpAnyH_done (by kernel_rfl) ?_ _
          have HF := Lib.hid (show w3.ownsRow w.heap.size 22 1 v2 (i + 1) ((hs ++ [(q1, q2)]).map hv) from by
            rw [List.map_append]; exact HA.out)
          clear HA HC
          go_wp2
          go_roundw
          case rel => exact ⟨i + 1, hs ++ [(q1, q2)], by go_num, by omega, by omega, by rw [List.length_append, HLEN.out]; rfl, fun z hz => by
            rcases List.mem_append.1 hz with hz | hz
            · exact HSML.out z hz
            · rw [List.mem_singleton] at hz
              subst hz
              exact ⟨⟨q1a, q1b⟩, q2a, q2b⟩, HF.out, HBL.out⟩
          case measure => simp [cnt]; omega
        · have g1 : decide ((i : Int) < (n0 : Int)) = true := by simp; omega
          have g2 : decide ((i : Int) < 40) = false := by simp; omega
          go_wp2_with fail
          go_meet
          case rel => exact ⟨hs, by rw [HLEN.out]; exact hi40, HSML.out, by rw [HLEN.out]; exact HO.out, HB.out⟩
      · have g1 : decide ((i : Int) < (n0 : Int)) = false := by simp; omega
        go_wp2_with fail
        go_meet
        case rel => exact ⟨hs, by rw [HLEN.out]; exact hi40, HSML.out, by rw [HLEN.out]; exact HO.out, HB.out⟩
  case rest =>
    obtain ⟨hs, hn40, hsm, hown, hbel⟩ := hcut
    obtain ⟨A, cc, rfl, hrd⟩ := own_slc hown
    obtain ⟨n, hn⟩ : ∃ n, hs.length = n := ⟨_, rfl⟩
    rw [hn] at hn40 hown hrd ⊢
    have HLEN := Lib.hid hn
    have HSML := Lib.hid hsm
    have HO := Lib.hid hown
    have HB := Lib.hid hbel
    have CR := Lib.hid (rank_any A n cc _ hs wc hrd (fun x hx => (hsm x hx).rgt) (by omega) (Nat.le_refl _) (so40 n hn40))
    clear hn hsm hown hbel hrd
    obtain ⟨wz, hwz⟩ : ∃ wz : World, wz = wc := ⟨_, rfl⟩
    rw [← hwz] at HO HB CR ⊢
    clear hwz
    go_wp2_with fail
    refine CR.out.mono ?_
    rintro e w1 ⟨g, d, rfl, hown1, hp, hs', hb1⟩
    have HA := Lib.hid (own_below HO.out hb1)
    have HD := Lib.hid (ownsRow_mono hown1 HB.out.size)
    have HP := Lib.hid hp
    have HS := Lib.hid hs'
    have HB1 := Lib.hid (HB.out.trans (hb1.mono HB.out.size))
    clear hown1 hp hs' hb1 CR HO HB
    go_upto_region 9 with fail
    obtain ⟨w2, hmk, hown, hg⟩ := run_makeSlice_full (P := Try.prog) w1 w.heap.size 32 4 i1 (.bool false) 1 Try.underlying32 ki0 kz0 kz1 .i64 .i64 n (by omega) (by rw [kz2]; omega) (by unfold maxLen; omega) (HB1.out.size)
    rw [made_one _ rfl] at hown
    have HSN := Lib.hid hown
    replace HB1 := Lib.hid (HB1.out.grown hg HB1.out.size (fun _ e => by cases e))
    have hbw : Below w1.heap.size w1 w2 := (Below.refl _ _).grown hg (Nat.le_refl _) (fun _ e => by cases e)
    replace HA := Lib.hid (own_below HA.out hbw)
    replace HD := Lib.hid (own_below HD.out hbw)
    have hgs : ∃ gs, gs = w1.heap.size := ⟨_, rfl⟩
    clear hown hg hbw
    obtain ⟨gs, hgs⟩ := hgs
    rw [← hgs] at hmk HSN
    clear hgs
    go_wp2_with fail
    go_loopw [9, 10] (OrdR w g gs n A cc hs d bs) (fun _ i _ => n - cnt i)
    case atStart => exact ⟨0, List.replicate n false, rfl, rfl, Nat.zero_le _, by simp, fun k _ hk => by
      obtain ⟨y, e1, e2⟩ := rank_in HP.out hk
      exact ⟨y, e1, by rw [List.getElem?_replicate, if_pos e2]⟩, ⟨HA.out, HD.out, by rw [List.map_replicate]; exact HSN.out, HB1.out⟩⟩
    case round =>
      obtain ⟨i, sb, rfl, rfl, hin, hsl, hsee, hmem⟩ := hrel
      have HSL := Lib.hid hsl
      have HSEE := Lib.hid hsee
      have HM := Lib.hid hmem
      clear hsl hsee hmem hmk
      by_cases hlt : i < n
      · have g1 : decide ((i : Int) < (n : Int)) = true := by simp; omega
        obtain ⟨ga, rfl⟩ := own_addr HM.out.a (by omega : 0 < n)
        obtain ⟨y, hy, hyf⟩ := HSEE.out i (Nat.le_refl _) hlt
        have hyn : y < n := by rw [← HSL.out]; exact (List.getElem?_eq_some_iff.1 hyf).1
        have cr : wr.cell? ⟨g, i, none⟩ = some (.int .i64 (y : Int)) := by rw [HM.out.rank hlt (by rw [HP.out.length_eq]; simp), hy]
        have cs : wr.cell? ⟨gs, y, none⟩ = some (.bool false) := by rw [HM.out.s.cellAt y (by omega), List.getElem?_map, hyf]; rfl
        have zs := HM.out.s.frozenAt y
        have HY := Lib.hid hy
        have HM2 := Lib.hid (HM.out.mark y)
        have HSEE2 := Lib.hid (show ∀ k, i + 1 ≤ k → k < n → ∃ z : Nat, ele d k = z ∧ (sb.set y true)[z]? = some false from fun k k1 k2 => by
          obtain ⟨z, e1, e2⟩ := HSEE.out k (by omega) k2
          have hne := rank_ne HP.out (show i < k by omega) k2
          rw [hy, e1] at hne
          exact ⟨z, e1, by rw [List.getElem?_set_ne (by omega)]; exact e2⟩)
        have HSL2 := Lib.hid (show (sb.set y true).length = n by rw [List.length_set]; exact HSL.out)
        have HCV := Lib.hid (show coldV bs (d.take (i + 1)) = if coldV bs (d.take i) < 0 then (if bel bs y then -1 else (y : Int)) else coldV bs (d.take i) from by
          rw [take_ele (by rw [HP.out.length_eq]; simpa using hlt), hy]
          refine (coldV_snoc (Int.natCast_nonneg y) (fun z hz => ?_)).trans (by rw [Int.toNat_natCast])
          obtain ⟨q, _, rfl⟩ := List.mem_map.1 (HP.out.mem_iff.1 (List.mem_of_mem_take hz))
          exact Int.natCast_nonneg q)
        clear hy hyf
        have HFR := Lib.hid (coldV_range (bs := bs) (l := d.take i) (fun z hz => by
          obtain ⟨q, _, rfl⟩ := List.mem_map.1 (HP.out.mem_iff.1 (List.mem_of_mem_take hz))
          exact Int.natCast_nonneg q))
        obtain ⟨f, hf⟩ : ∃ f, coldV bs (d.take i) = f := ⟨_, rfl⟩
        rw [hf] at HCV HFR ⊢
        clear hf
        go_upto_if 88 with fail
        obtain ⟨w4, hw4⟩ : ∃ w4, w4 = wr.setCell ⟨gs, y, none⟩ (.bool true) := ⟨_, rfl⟩
        rw [← hw4] at HM2 ⊢
        clear hw4 cs zs
        have cr := HM2.out.rank hlt (by rw [HP.out.length_eq]; simp)
        rw [HY.out] at cr
        go_cut [9] (OrdC f w4)
        case first => as_aux_lemma =>
          by_cases hi0' : i = 0
          · subst hi0'
            go_wp2_with fail
            go_meet
            case rel => exact ⟨rfl, 0, rfl⟩
          · have g2 : decide ((0 : Int) < (i : Int)) = true := by simp; omega
            have g3 : decide (0 < i) = true := by simp; omega
            obtain ⟨j, hj⟩ : ∃ j, j = i - 1 := ⟨_, rfl⟩
            have ej : (i : Int) - 1 = (j : Int) := by omega
            have hwj : IntKind.i64.wrap (j : Int) = (j : Int) := IntWalk.i64_in _ (by omega)
            have hjn : j < n := by omega
            obtain ⟨x, hx, hxn⟩ := rank_in HP.out hjn
            have c1 := HM2.out.rank hjn (by rw [HP.out.length_eq]; simp)
            rw [hx] at c1
            have c2 := HM2.out.heat hxn HLEN.out
            have c3 := HM2.out.heat hyn HLEN.out
            have s1 : Sml (hAt hs x) := by
              unfold hAt
              rw [List.getD_eq_getElem?_getD, List.getElem?_eq_getElem (by rw [HLEN.out]; exact hxn)]
              exact HSML.out _ (List.getElem_mem _)
            have s2 : Sml (hAt hs y) := by
              unfold hAt
              rw [List.getD_eq_getElem?_getD, List.getElem?_eq_getElem (by rw [HLEN.out]; exact hyn)]
              exact HSML.out _ (List.getElem_mem _)
            obtain ⟨⟨p1, p2⟩, hp⟩ : ∃ p, hAt hs x = p := ⟨_, rfl⟩
            obtain ⟨⟨r1, r2⟩, hr⟩ : ∃ p, hAt hs y = p := ⟨_, rfl⟩
            have hle : lex hs (x : Int) ≤ lex hs (y : Int) := by
              have hl : d.length = n := by rw [HP.out.length_eq]; simp
              have := HS.out j i (Nat.zero_le _) (by omega) hlt
              rw [ele_map (by omega), ele_map (by omega), hx, HY.out] at this
              exact this
            have hst := rank_step s1 s2 rfl rfl hle (by omega) (by omega)
            rw [hp] at c2 s1
            rw [hr] at c3 s2
            rw [hp, hr] at hst
            unfold hv at c2 c3
            obtain ⟨⟨a1, a2⟩, a3, a4⟩ := s1
            obtain ⟨⟨b1, b2⟩, b3, b4⟩ := s2
            obtain ⟨t1, t2⟩ := hst
            simp only at a1 a2 a3 a4 b1 b2 b3 b4 t1 t2 c2 c3
            have N1 := Lib.hid (fun W => rnorm_any _ _ p1 p2 W (F_is _) (F_is _) (by omega) (by omega))
            have N2 := Lib.hid (fun W => rnorm_any _ _ r1 r2 W (F_is _) (F_is _) (by omega) (by omega))
            have T2 := Lib.hid t2
            have m1 : decide (r1 * r1 + r2 * r2 < p1 * p1 + p2 * p2) = false := by
              generalize r1 * r1 + r2 * r2 = P at t1 ⊢
              generalize p1 * p1 + p2 * p2 = Q at t1 ⊢
              simp; omega
            generalize r1 * r1 + r2 * r2 = P at N2 m1
            generalize p1 * p1 + p2 * p2 = Q at N1 m1
            clear hj hx hp hr hle t1 t2 hi0'
            go_wp2_with fail
            go_quiet (fail)
            go_wp2_with fail
            refine (N1.out _).mono ?_; rintro e w5 ⟨rfl, rfl⟩
            go_wp2_with fail
            refine (N2.out _).mono ?_; rintro e w5 ⟨rfl, rfl⟩
            go_wp2_with fail
            by_cases e1 : p1 = r1
            · have o1 := ord_eq (F_is p1) (F_is r1) (by omega) (by omega) e1
              by_cases e2 : p2 = r2
              · have o2 := ord_eq (F_is p2) (F_is r2) (by omega) (by omega) e2
                have hxy := T2.out e1 e2
                have m2 : decide ((y : Int) < (x : Int)) = false := by simp; omega
                have m3 : decide (y < x) = false := by simp; omega
                clear e1 e2
                go_quiet (fail)
                go_wp2_with fail
                go_meet
                case rel => exact ⟨rfl, _, by rw [World.drewN_drewN]⟩
              · have e3 := e2
                rcases Int.lt_or_gt_of_ne e2 with h | h
                · have o2 := ord_lt (F_is p2) (F_is r2) (by omega) (by omega) h
                  clear e1 e2 e3 h
                  go_quiet (fail)
                  go_wp2_with fail
                  go_meet
                  case rel => exact ⟨rfl, _, by rw [World.drewN_drewN]⟩
                · have o2 := ord_gt (F_is p2) (F_is r2) (by omega) (by omega) h
                  clear e1 e2 e3 h
                  go_quiet (fail)
                  go_wp2_with fail
                  go_meet
                  case rel => exact ⟨rfl, _, by rw [World.drewN_drewN]⟩
            · rcases Int.lt_or_gt_of_ne e1 with h | h
              · have o1 := ord_lt (F_is p1) (F_is r1) (by omega) (by omega) h
                clear e1 h
                go_quiet (fail)
                go_wp2_with fail
                go_meet
                case rel => exact ⟨rfl, _, by rw [World.drewN_drewN]⟩
              · have o1 := ord_gt (F_is p1) (F_is r1) (by omega) (by omega) h
                clear e1 h
                go_quiet (fail)
                go_wp2_with fail
                go_meet
                case rel => exact ⟨rfl, _, by rw [World.drewN_drewN]⟩
        case rest =>
          obtain ⟨rfl, q, hwq⟩ := hcut
          rw [hwq]
          have HM3 := Lib.hid (HM2.out.drewN q)
          clear hwq cr
          generalize w4.drewN q = w6 at *
          have cr := HM3.out.rank hlt (by rw [HP.out.length_eq]; simp)
          rw [HY.out] at cr
          by_cases hf0 : f < 0
          · have g2 : decide (f < 0) = true := by simpa using hf0
            have hfm : f = -1 := by rcases HFR.out with h | h <;> omega
            have HFM := Lib.hid hfm
            clear hfm
            by_cases hy1 : y < n1
            · have g3 : decide ((y : Int) < (n1 : Int)) = true := by simp; omega
              have g4 : decide (y < n1) = true := by simpa using hy1
              obtain ⟨ad1, rfl, hb⟩ := reads_b (HR1.out.below HM3.out.old) hy1
              cases hbb : bel bs y
              · rw [hbb] at hb
                have HV := Lib.hid (show coldV bs (d.take (i + 1)) = y by rw [HCV.out, if_pos hf0, hbb]; rfl)
                clear hbb
                go_wp2
                go_roundw
                case rel => exact ⟨i + 1, sb.set y true, by rw [HV.out], by go_num, by omega, HSL2.out, HSEE2.out, HM3.out⟩
                case measure => simp [cnt]; omega
              · rw [hbb] at hb
                have HV := Lib.hid (show coldV bs (d.take (i + 1)) = f by rw [HCV.out, if_pos hf0, hbb, HFM.out]; rfl)
                clear hbb
                go_wp2
                go_roundw
                case rel => exact ⟨i + 1, sb.set y true, by rw [HV.out], by go_num, by omega, HSL2.out, HSEE2.out, HM3.out⟩
                case measure => simp [cnt]; omega
            · have g3 : decide ((y : Int) < (n1 : Int)) = false := by simp; omega
              have g4 : decide (y < n1) = false := by simpa using hy1
              have hbb : bel bs y = false := by
                unfold bel
                rw [List.getD_eq_getElem?_getD, List.getElem?_eq_none (by have := HR1.out.1; simp at this; omega)]; rfl
              have HV := Lib.hid (show coldV bs (d.take (i + 1)) = y by rw [HCV.out, if_pos hf0, hbb]; rfl)
              clear hbb
              go_wp2
              go_roundw
              case rel => exact ⟨i + 1, sb.set y true, by rw [HV.out], by go_num, by omega, HSL2.out, HSEE2.out, HM3.out⟩
              case measure => simp [cnt]; omega
          · have g2 : decide (f < 0) = false := by simpa using hf0
            have HV := Lib.hid (show coldV bs (d.take (i + 1)) = f by rw [HCV.out, if_neg hf0])
            go_wp2
            go_roundw
            case rel => exact ⟨i + 1, sb.set y true, by rw [HV.out], by go_num, by omega, HSL2.out, HSEE2.out, HM3.out⟩
            case measure => simp [cnt]; omega
      · have g1 : decide ((i : Int) < (n : Int)) = false := by simp; omega
        have hld : d.length = n := by rw [HP.out.length_eq]; simp
        obtain rfl : i = n := by omega
        rw [List.take_of_length_le (by omega)]
        obtain ⟨f, hf⟩ : ∃ f, coldV bs d = f := ⟨_, rfl⟩
        rw [hf]
        have HF := Lib.hid hf
        clear hf hld
        go_wp2_with fail
        refine (told_any _).mono ?_; rintro e w5 ⟨rfl, hb5⟩
        have HA5 := Lib.hid (own_below HM.out.a hb5)
        have HB5 := Lib.hid (HM.out.old.trans (hb5.mono HM.out.old.size))
        obtain ⟨A', c', e1, hrd⟩ := own_slc HA5.out
        injection e1 with e1 _ e2
        subst e1 e2
        have CC := Lib.hid (cold_any _ A1 i cc _ n1 c1 _ hs bs w5 hrd (fun x hx => (HSML.out x hx).rgt) (by omega) (Nat.le_refl _) (so40 i hn40) (HR1.out.below HB5.out) HB5.out.size)
        clear hb5 hrd
        go_wp2_with fail
        refine CC.out.mono ?_
        rintro e w6 ⟨d', rfl, hp', hs', hb6⟩
        obtain rfl : d' = d := rank_one (by omega) HP.out HS.out hp' hs'
        rw [HF.out]
        have HB6 := Lib.hid (HB5.out.trans (hb6.mono HB5.out.size))
        clear hp' hs' hb6
        go_wp2
        go_ret
        exact ⟨by simp, HB6.out⟩
end Go.Proofs.Ytghniddefhdmmaa
