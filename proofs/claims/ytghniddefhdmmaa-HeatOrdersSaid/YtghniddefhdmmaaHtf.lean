/- What Rank of package heat makes: places by their heats, of like ones the lesser first; over a sort that serves. -/
import Derived.Test.YtghniddefhdmmaaHte
import Derived.Test.YtghniddefhdmmaaTakz
import Derived.Test.YtghniddefhdmmaaOps
import Derived.Deep.DeepCutAuto
import Derived.Deep.CutBlock
namespace Go.Proofs.Ytghniddefhdmmaa
open Go.RowKit Flo

theorem made_one (z : Value) (h : z.cells = #[z]) (n : Nat) : (madeCells z.cells (n * 1)).toList = List.replicate n z := by
  apply List.ext_getElem?
  intro j
  unfold madeCells
  rw [h, Nat.mul_one]
  by_cases hj : j < n
  · rw [List.getElem?_replicate, if_pos hj]; simp [hj, Nat.mod_one]
  · rw [List.getElem?_replicate, if_neg hj]; simp [hj]

theorem fill_set {α : Type} {L : List α} {z x : α} {t : Nat} (h : L[t]? = some x) : (L.take t ++ List.replicate (L.length - t) z).set t x = L.take (t + 1) ++ List.replicate (L.length - (t + 1)) z := by
  have ht : t < L.length := (List.getElem?_eq_some_iff.1 h).1
  have hx : L[t] = x := (List.getElem?_eq_some_iff.1 h).2
  rw [List.set_append_right _ _ (by rw [List.length_take]; omega), List.length_take, Nat.min_eq_left (by omega), Nat.sub_self]
  rw [show L.length - t = (L.length - (t + 1)) + 1 by omega, List.replicate_succ, List.set_cons_zero, List.take_succ_eq_append_getElem ht, hx, List.append_assoc]
  rfl

theorem infoI : (Try.prog.info? 3).map (fun i => (i.zero, i.size, i.bytes)) = some (some (.int .i64 0), 1, 8) := by kernel_rfl
theorem infoC : (Try.prog.info? 22).map (fun i => (i.zero, i.size, i.bytes)) = some (some (.complex .f64 0 0), 1, 16) := by kernel_rfl

theorem own_ne_own {w : World} {b1 b2 s1 s2 n1 n2 c1 c2 g1 g2 : Nat} {e1 e2 : TypeId} {xs ys : List Value} (h1 : w.ownsRow b1 e1 s1 (.slice (some ⟨g1, 0, none⟩) n1 c1) n1 xs) (h2 : w.ownsRow b2 e2 s2 (.slice (some ⟨g2, 0, none⟩) n2 c2) n2 ys) (hne : e1 ≠ e2) : g1 ≠ g2 := by
  rintro rfl
  rcases h1.2 with ⟨h, _⟩ | ⟨g', cap, cur, h, _, h3, _⟩
  · cases h
  · rcases h2.2 with ⟨h', _⟩ | ⟨g'', cap2, cur2, h', _, h5, _⟩
    · cases h'
    · injection h with h; injection h with h; injection h with h; subst h
      injection h' with h'; injection h' with h'; injection h' with h'; subst h'
      rw [h3] at h5; injection h5 with h5; injection h5 with _ h5; exact hne h5
theorem own_ne_blk {w : World} {b1 s1 n1 c1 g1 g2 : Nat} {e1 t : TypeId} {xs : List Value} {cs : Array Value} (h1 : w.ownsRow b1 e1 s1 (.slice (some ⟨g1, 0, none⟩) n1 c1) n1 xs) (h2 : Blk w g2 t cs) (hne : e1 ≠ t) : g1 ≠ g2 := by
  rintro rfl
  rcases h1.2 with ⟨h, _⟩ | ⟨g', cap, cur, h, _, h3, _⟩
  · cases h
  · injection h with h; injection h with h; injection h with h; subst h
    unfold Blk at h2
    rw [h3] at h2; injection h2 with h2; injection h2 with _ h5; exact hne h5

/-- Rank's memory, t places filled. -/
structure RkM (w : World) (hp hr g n : Nat) (hs : List (Int × Int)) (t : Nat) (wr : World) : Prop where
  p : Blk wr hp 33 #[.slice (some ⟨hr, 0, none⟩) n n]
  r : wr.ownsRow w.heap.size 22 1 (.slice (some ⟨hr, 0, none⟩) n n) n ((hs.map hv).take t ++ List.replicate ((hs.map hv).length - t) (.complex .f64 0 0))
  o : wr.ownsRow w.heap.size 3 1 (.slice (some ⟨g, 0, none⟩) n n) n ((((List.range n).map Int.ofNat).map (Value.int .i64)).take t ++ List.replicate ((((List.range n).map Int.ofNat).map (Value.int .i64)).length - t) (.int .i64 0))
  old : Below w.heap.size w wr
  hp0 : w.heap.size ≤ hp

def CutR (w : World) (n : Nat) (hs : List (Int × Int)) (s3 s4 : Value) (wr : World) : Prop := ∃ hp hr g : Nat, s3 = .pointer (some ⟨hp, 0, none⟩) ∧ s4 = .slice (some ⟨g, 0, none⟩) n n ∧ RkM w hp hr g n hs 0 wr
def LoopR (w : World) (hp hr g n : Nat) (hs : List (Int × Int)) (v : Value) (wr : World) : Prop := ∃ t : Nat, v = .int .i64 t ∧ t ≤ n ∧ RkM w hp hr g n hs t wr

def RankIs (w : World) (n : Nat) (hs : List (Int × Int)) (e : Ending) (w' : World) : Prop := ∃ (g : Nat) (d : List Int), e = .returned (.slice (some ⟨g, 0, none⟩) n n) ∧ w'.ownsRow w.heap.size 3 1 (.slice (some ⟨g, 0, none⟩) n n) n (d.map (Value.int .i64)) ∧
  d.Perm ((List.range n).map Int.ofNat) ∧ Srtd (d.map (lex hs)) 0 n ∧ Below w.heap.size w w'

set_option maxRecDepth 100000 in
set_option maxHeartbeats 8000000 in
theorem rank_any (A : Option Addr) (n c B : Nat) (hs : List (Int × Int)) (w : World) (hrd : Reads w B 1 A n (hs.map hv)) (hrg : ∀ x ∈ hs, Rgt x) (hn : n ≤ 1000) (hB : B ≤ w.heap.size) (hso : StableOk n) :
    Calls Try.prog 13 #[.slice A n c] w (RankIs w n hs) := by
  obtain ⟨i0, hi0, hz0, hz1, hz2⟩ := info_parts infoI
  obtain ⟨i1, ki0, kz0, kz1, kz2⟩ := info_parts infoC
  have hlen : hs.length = n := by have := hrd.1; simpa using this
  have HLEN := Lib.hid hlen
  have HRD := Lib.hid hrd
  have HRG := Lib.hid hrg
  have HSO := Lib.hid hso
  clear hlen hrd hrg hso
  go_enter Try.func13, Try.ntmps13
  go_upto_region 1 with fail
  go_cut [3, 4] (CutR w n hs)
  case first =>
    refine wp_region_held_drew (S := (fun _ => True)) (by kernel_rfl) ?_ (fun hHeld => ?_)
    · trivial
    obtain ⟨wc, hwc, HBL⟩ : ∃ wc, w.drew = wc ∧ Hid (Below w.heap.size w wc) := ⟨_, rfl, Lib.hid (below_drewN (Below.refl _ _) 1)⟩
    rw [hwc]
    clear hwc
    ((refine takeY 0 (v := ?_) rfl (by kernel_rfl) (by kernel_rfl) (by kernel_rfl) (fun _ _ _ h => h) (by rfl) (by assumption) ?_ ?_; rotate_left; · (intro w hSw; (try dsimp only at hSw); go_simp; (first | done | with_reducible rfl))))
    (try simp only [Act.put, List.setIfInBounds_toArray, List.set_cons_zero, List.set_cons_succ])
    ((refine takeY 1 (v := ?_) rfl (by kernel_rfl) (by kernel_rfl) (by kernel_rfl) (fun _ _ _ h => h) (by rfl) (by assumption) ?_ ?_; rotate_left; · (intro w hSw; (try dsimp only at hSw); go_simp; (first | done | with_reducible rfl))))
    (try simp only [Act.put, List.setIfInBounds_toArray, List.set_cons_zero, List.set_cons_succ])
    ((refine takeY 3 (v := ?_) rfl (by kernel_rfl) (by kernel_rfl) (by kernel_rfl) (fun _ _ _ h => h) (by rfl) (by assumption) ?_ ?_; rotate_left; · (intro w hSw; (try dsimp only at hSw); go_simp; (first | done | with_reducible rfl))))
    (try simp only [Act.put, List.setIfInBounds_toArray, List.set_cons_zero, List.set_cons_succ])
    ((refine takeY 4 (v := ?_) rfl (by kernel_rfl) (by kernel_rfl) (by kernel_rfl) (fun _ _ _ h => h) (by rfl) (by assumption) ?_ ?_; rotate_left; · (intro w hSw; (try dsimp only at hSw); go_simp; (first | done | with_reducible rfl))))
    (try simp only [Act.put, List.setIfInBounds_toArray, List.set_cons_zero, List.set_cons_succ])
    refine wpAnyH_ready (rs := [2, 5, 6]) (by kernel_rfl) (by simp) ?_
    refine consH 2 rfl (by rfl) (fun K hK => ?_) (consH 5 rfl (by rfl) (fun K hK => ?_) (consH 6 rfl (by rfl) (fun K hK => ?_) (AllReadyH.nil)))
    · obtain ⟨w2, hmk, hown, hg⟩ := run_makeSlice_full (P := Try.prog) wc w.heap.size 33 22 i1 (.complex .f64 0 0) 1 Try.underlying33 ki0 kz0 kz1 .i64 .i64 n (by omega) (by rw [kz2]; omega) (by unfold maxLen; omega) (HBL.out.size)
      go_simp
      (refine hK.out _ _ trivial (fun hHeld => ?_))
      clear hK K
      rw [made_one _ rfl] at hown
      have HR := Lib.hid hown
      replace HBL := Lib.hid (HBL.out.grown hg HBL.out.size (fun _ e => by cases e))
      clear hmk hown hg
      generalize wc.heap.size = hr at *
      obtain ⟨wc, rfl⟩ : ∃ x : World, x = w2 := ⟨_, rfl⟩
      refine wpAnyH_ready (rs := [5, 6]) (by kernel_rfl) (by simp) ?_
      refine consH 5 rfl (by rfl) (fun K hK => ?_) (consH 6 rfl (by rfl) (fun K hK => ?_) (AllReadyH.nil))
      · obtain ⟨w2, hmk, hown, hg⟩ := run_makeSlice_full (P := Try.prog) wc w.heap.size 31 3 i0 (.int .i64 0) 1 Try.underlying31 hi0 hz0 hz1 .i64 .i64 n (by omega) (by rw [hz2]; omega) (by unfold maxLen; omega) (HBL.out.size)
        go_simp
        (refine hK.out _ _ trivial (fun hHeld => ?_))
        clear hK K
        rw [made_one _ rfl] at hown
        have HG := Lib.hid hown
        replace HBL := Lib.hid (HBL.out.grown hg HBL.out.size (fun _ e => by cases e))
        replace HR := Lib.hid (HR.out.kept hg (.inr (by intro e; cases e)))
        clear hmk hown hg
        generalize wc.heap.size = g at *
        obtain ⟨wc, rfl⟩ : ∃ x : World, x = w2 := ⟨_, rfl⟩
        refine stepH 6 rfl (by kernel_rfl) (by rfl) (fun K hK => ?_)
        go_simp
        (refine hK.out _ _ trivial (fun hHeld => ?_))
        clear hK K
        have HP := Lib.hid (Blk.new wc 33 #[.slice none 0 0])
        have HP0 := Lib.hid HBL.out.size
        replace HR := Lib.hid (HR.out.alloc (.cells #[.slice none 0 0] 33))
        replace HG := Lib.hid (HG.out.alloc (.cells #[.slice none 0 0] 33))
        replace HBL := Lib.hid (HBL.out.alloc HBL.out.size (.cells #[.slice none 0 0] 33))
        generalize hwn : wc.alloc (.cells #[.slice none 0 0] 33) = wn at *
        clear hwn
        generalize hhp : wc.heap.size = hp at *
        clear hhp
        obtain ⟨wc, rfl⟩ : ∃ x : World, x = wn := ⟨_, rfl⟩
        refine stepH 7 rfl (by kernel_rfl) (by rfl) (fun K hK => ?_)
        have c0 := (HP.out.cell 0).trans (show _ = some (.slice none 0 0) from rfl)
        have z0 := HP.out.frozen 0
        go_simp
        (refine hK.out _ _ trivial (fun hHeld => ?_))
        clear hK K c0 z0
        have hsg : wc.grownBy (wc.setCell ⟨hp, 0, none⟩ (.slice (some ⟨hr, 0, none⟩) n n)) (some hp) := only_setCell (World.grownBy.refl wc _) (.inl rfl) _
        replace HR := Lib.hid (HR.out.kept hsg (.inr fun e => own_ne_blk HR.out HP.out (by decide) (Option.some.inj e)))
        replace HG := Lib.hid (HG.out.kept hsg (.inr fun e => own_ne_blk HG.out HP.out (by decide) (Option.some.inj e)))
        replace HBL := Lib.hid (HBL.out.grown hsg HBL.out.size (fun _ e => by cases e; exact HP0.out))
        have HP2 := Lib.hid (show Blk (wc.setCell ⟨hp, 0, none⟩ (.slice (some ⟨hr, 0, none⟩) n n)) hp 33 #[.slice (some ⟨hr, 0, none⟩) n n] from HP.out.set_ 0 _)
        clear HP hsg
        have HP := HP2
        clear HP2
        generalize hwn : wc.setCell ⟨hp, 0, none⟩ (.slice (some ⟨hr, 0, none⟩) n n) = wn at *
        clear hwn
        obtain ⟨wc, rfl⟩ : ∃ x : World, x = wn := ⟨_, rfl⟩
        ((refine takeY 8 (v := ?_) rfl (by kernel_rfl) (by kernel_rfl) (by kernel_rfl) (fun _ _ _ h => h) (by rfl) (by assumption) ?_ ?_; rotate_left; · (intro w hSw; (try dsimp only at hSw); go_simp; (first | done | with_reducible rfl))))
        (try simp only [Act.put, List.setIfInBounds_toArray, List.set_cons_zero, List.set_cons_succ])
        refine wpAnyH_done (by kernel_rfl) ?_ _
        go_wp2_with fail
        go_meet
        have hl1 : (hs.map hv).length = n := by rw [List.length_map]; exact HLEN.out
        have hl2 : (((List.range n).map Int.ofNat).map (Value.int .i64)).length = n := by simp
        exact ⟨hp, hr, g, rfl, rfl, HP.out, by rw [hl1]; exact HR.out, by rw [hl2]; exact HG.out, HBL.out, HP0.out⟩
      · go_simp
        (refine hK.out _ _ trivial (fun hHeld => ?_))
        clear hK K
        have HP := Lib.hid (Blk.new wc 33 #[.slice none 0 0])
        have HP0 := Lib.hid HBL.out.size
        replace HR := Lib.hid (HR.out.alloc (.cells #[.slice none 0 0] 33))
        replace HBL := Lib.hid (HBL.out.alloc HBL.out.size (.cells #[.slice none 0 0] 33))
        generalize hwn : wc.alloc (.cells #[.slice none 0 0] 33) = wn at *
        clear hwn
        generalize hhp : wc.heap.size = hp at *
        clear hhp
        obtain ⟨wc, rfl⟩ : ∃ x : World, x = wn := ⟨_, rfl⟩
        refine wpAnyH_ready (rs := [5, 7]) (by kernel_rfl) (by simp) ?_
        refine consH 5 rfl (by rfl) (fun K hK => ?_) (consH 7 rfl (by rfl) (fun K hK => ?_) (AllReadyH.nil))
        · obtain ⟨w2, hmk, hown, hg⟩ := run_makeSlice_full (P := Try.prog) wc w.heap.size 31 3 i0 (.int .i64 0) 1 Try.underlying31 hi0 hz0 hz1 .i64 .i64 n (by omega) (by rw [hz2]; omega) (by unfold maxLen; omega) (HBL.out.size)
          go_simp
          (refine hK.out _ _ trivial (fun hHeld => ?_))
          clear hK K
          rw [made_one _ rfl] at hown
          have HG := Lib.hid hown
          replace HBL := Lib.hid (HBL.out.grown hg HBL.out.size (fun _ e => by cases e))
          replace HR := Lib.hid (HR.out.kept hg (.inr (by intro e; cases e)))
          replace HP := Lib.hid (HP.out.grown hg (by intro e; cases e))
          clear hmk hown hg
          generalize wc.heap.size = g at *
          obtain ⟨wc, rfl⟩ : ∃ x : World, x = w2 := ⟨_, rfl⟩
          refine stepH 7 rfl (by kernel_rfl) (by rfl) (fun K hK => ?_)
          have c0 := (HP.out.cell 0).trans (show _ = some (.slice none 0 0) from rfl)
          have z0 := HP.out.frozen 0
          go_simp
          (refine hK.out _ _ trivial (fun hHeld => ?_))
          clear hK K c0 z0
          have hsg : wc.grownBy (wc.setCell ⟨hp, 0, none⟩ (.slice (some ⟨hr, 0, none⟩) n n)) (some hp) := only_setCell (World.grownBy.refl wc _) (.inl rfl) _
          replace HR := Lib.hid (HR.out.kept hsg (.inr fun e => own_ne_blk HR.out HP.out (by decide) (Option.some.inj e)))
          replace HG := Lib.hid (HG.out.kept hsg (.inr fun e => own_ne_blk HG.out HP.out (by decide) (Option.some.inj e)))
          replace HBL := Lib.hid (HBL.out.grown hsg HBL.out.size (fun _ e => by cases e; exact HP0.out))
          have HP2 := Lib.hid (show Blk (wc.setCell ⟨hp, 0, none⟩ (.slice (some ⟨hr, 0, none⟩) n n)) hp 33 #[.slice (some ⟨hr, 0, none⟩) n n] from HP.out.set_ 0 _)
          clear HP hsg
          have HP := HP2
          clear HP2
          generalize hwn : wc.setCell ⟨hp, 0, none⟩ (.slice (some ⟨hr, 0, none⟩) n n) = wn at *
          clear hwn
          obtain ⟨wc, rfl⟩ : ∃ x : World, x = wn := ⟨_, rfl⟩
          ((refine takeY 8 (v := ?_) rfl (by kernel_rfl) (by kernel_rfl) (by kernel_rfl) (fun _ _ _ h => h) (by rfl) (by assumption) ?_ ?_; rotate_left; · (intro w hSw; (try dsimp only at hSw); go_simp; (first | done | with_reducible rfl))))
          (try simp only [Act.put, List.setIfInBounds_toArray, List.set_cons_zero, List.set_cons_succ])
          refine wpAnyH_done (by kernel_rfl) ?_ _
          go_wp2_with fail
          go_meet
          have hl1 : (hs.map hv).length = n := by rw [List.length_map]; exact HLEN.out
          have hl2 : (((List.range n).map Int.ofNat).map (Value.int .i64)).length = n := by simp
          exact ⟨hp, hr, g, rfl, rfl, HP.out, by rw [hl1]; exact HR.out, by rw [hl2]; exact HG.out, HBL.out, HP0.out⟩
        · have c0 := (HP.out.cell 0).trans (show _ = some (.slice none 0 0) from rfl)
          have z0 := HP.out.frozen 0
          go_simp
          (refine hK.out _ _ trivial (fun hHeld => ?_))
          clear hK K c0 z0
          have hsg : wc.grownBy (wc.setCell ⟨hp, 0, none⟩ (.slice (some ⟨hr, 0, none⟩) n n)) (some hp) := only_setCell (World.grownBy.refl wc _) (.inl rfl) _
          replace HR := Lib.hid (HR.out.kept hsg (.inr fun e => own_ne_blk HR.out HP.out (by decide) (Option.some.inj e)))
          replace HBL := Lib.hid (HBL.out.grown hsg HBL.out.size (fun _ e => by cases e; exact HP0.out))
          have HP2 := Lib.hid (show Blk (wc.setCell ⟨hp, 0, none⟩ (.slice (some ⟨hr, 0, none⟩) n n)) hp 33 #[.slice (some ⟨hr, 0, none⟩) n n] from HP.out.set_ 0 _)
          clear HP hsg
          have HP := HP2
          clear HP2
          generalize hwn : wc.setCell ⟨hp, 0, none⟩ (.slice (some ⟨hr, 0, none⟩) n n) = wn at *
          clear hwn
          obtain ⟨wc, rfl⟩ : ∃ x : World, x = wn := ⟨_, rfl⟩
          refine stepH 5 rfl (by kernel_rfl) (by rfl) (fun K hK => ?_)
          obtain ⟨w2, hmk, hown, hg⟩ := run_makeSlice_full (P := Try.prog) wc w.heap.size 31 3 i0 (.int .i64 0) 1 Try.underlying31 hi0 hz0 hz1 .i64 .i64 n (by omega) (by rw [hz2]; omega) (by unfold maxLen; omega) (HBL.out.size)
          go_simp
          (refine hK.out _ _ trivial (fun hHeld => ?_))
          clear hK K
          rw [made_one _ rfl] at hown
          have HG := Lib.hid hown
          replace HBL := Lib.hid (HBL.out.grown hg HBL.out.size (fun _ e => by cases e))
          replace HR := Lib.hid (HR.out.kept hg (.inr (by intro e; cases e)))
          replace HP := Lib.hid (HP.out.grown hg (by intro e; cases e))
          clear hmk hown hg
          generalize wc.heap.size = g at *
          obtain ⟨wc, rfl⟩ : ∃ x : World, x = w2 := ⟨_, rfl⟩
          ((refine takeY 8 (v := ?_) rfl (by kernel_rfl) (by kernel_rfl) (by kernel_rfl) (fun _ _ _ h => h) (by rfl) (by assumption) ?_ ?_; rotate_left; · (intro w hSw; (try dsimp only at hSw); go_simp; (first | done | with_reducible rfl))))
          (try simp only [Act.put, List.setIfInBounds_toArray, List.set_cons_zero, List.set_cons_succ])
          refine wpAnyH_done (by kernel_rfl) ?_ _
          go_wp2_with fail
          go_meet
          have hl1 : (hs.map hv).length = n := by rw [List.length_map]; exact HLEN.out
          have hl2 : (((List.range n).map Int.ofNat).map (Value.int .i64)).length = n := by simp
          exact ⟨hp, hr, g, rfl, rfl, HP.out, by rw [hl1]; exact HR.out, by rw [hl2]; exact HG.out, HBL.out, HP0.out⟩
    · obtain ⟨w2, hmk, hown, hg⟩ := run_makeSlice_full (P := Try.prog) wc w.heap.size 31 3 i0 (.int .i64 0) 1 Try.underlying31 hi0 hz0 hz1 .i64 .i64 n (by omega) (by rw [hz2]; omega) (by unfold maxLen; omega) (HBL.out.size)
      go_simp
      (refine hK.out _ _ trivial (fun hHeld => ?_))
      clear hK K
      rw [made_one _ rfl] at hown
      have HG := Lib.hid hown
      replace HBL := Lib.hid (HBL.out.grown hg HBL.out.size (fun _ e => by cases e))
      clear hmk hown hg
      generalize wc.heap.size = g at *
      obtain ⟨wc, rfl⟩ : ∃ x : World, x = w2 := ⟨_, rfl⟩
      refine wpAnyH_ready (rs := [2, 6]) (by kernel_rfl) (by simp) ?_
      refine consH 2 rfl (by rfl) (fun K hK => ?_) (consH 6 rfl (by rfl) (fun K hK => ?_) (AllReadyH.nil))
      · obtain ⟨w2, hmk, hown, hg⟩ := run_makeSlice_full (P := Try.prog) wc w.heap.size 33 22 i1 (.complex .f64 0 0) 1 Try.underlying33 ki0 kz0 kz1 .i64 .i64 n (by omega) (by rw [kz2]; omega) (by unfold maxLen; omega) (HBL.out.size)
        go_simp
        (refine hK.out _ _ trivial (fun hHeld => ?_))
        clear hK K
        rw [made_one _ rfl] at hown
        have HR := Lib.hid hown
        replace HBL := Lib.hid (HBL.out.grown hg HBL.out.size (fun _ e => by cases e))
        replace HG := Lib.hid (HG.out.kept hg (.inr (by intro e; cases e)))
        clear hmk hown hg
        generalize wc.heap.size = hr at *
        obtain ⟨wc, rfl⟩ : ∃ x : World, x = w2 := ⟨_, rfl⟩
        refine stepH 6 rfl (by kernel_rfl) (by rfl) (fun K hK => ?_)
        go_simp
        (refine hK.out _ _ trivial (fun hHeld => ?_))
        clear hK K
        have HP := Lib.hid (Blk.new wc 33 #[.slice none 0 0])
        have HP0 := Lib.hid HBL.out.size
        replace HR := Lib.hid (HR.out.alloc (.cells #[.slice none 0 0] 33))
        replace HG := Lib.hid (HG.out.alloc (.cells #[.slice none 0 0] 33))
        replace HBL := Lib.hid (HBL.out.alloc HBL.out.size (.cells #[.slice none 0 0] 33))
        generalize hwn : wc.alloc (.cells #[.slice none 0 0] 33) = wn at *
        clear hwn
        generalize hhp : wc.heap.size = hp at *
        clear hhp
        obtain ⟨wc, rfl⟩ : ∃ x : World, x = wn := ⟨_, rfl⟩
        refine stepH 7 rfl (by kernel_rfl) (by rfl) (fun K hK => ?_)
        have c0 := (HP.out.cell 0).trans (show _ = some (.slice none 0 0) from rfl)
        have z0 := HP.out.frozen 0
        go_simp
        (refine hK.out _ _ trivial (fun hHeld => ?_))
        clear hK K c0 z0
        have hsg : wc.grownBy (wc.setCell ⟨hp, 0, none⟩ (.slice (some ⟨hr, 0, none⟩) n n)) (some hp) := only_setCell (World.grownBy.refl wc _) (.inl rfl) _
        replace HR := Lib.hid (HR.out.kept hsg (.inr fun e => own_ne_blk HR.out HP.out (by decide) (Option.some.inj e)))
        replace HG := Lib.hid (HG.out.kept hsg (.inr fun e => own_ne_blk HG.out HP.out (by decide) (Option.some.inj e)))
        replace HBL := Lib.hid (HBL.out.grown hsg HBL.out.size (fun _ e => by cases e; exact HP0.out))
        have HP2 := Lib.hid (show Blk (wc.setCell ⟨hp, 0, none⟩ (.slice (some ⟨hr, 0, none⟩) n n)) hp 33 #[.slice (some ⟨hr, 0, none⟩) n n] from HP.out.set_ 0 _)
        clear HP hsg
        have HP := HP2
        clear HP2
        generalize hwn : wc.setCell ⟨hp, 0, none⟩ (.slice (some ⟨hr, 0, none⟩) n n) = wn at *
        clear hwn
        obtain ⟨wc, rfl⟩ : ∃ x : World, x = wn := ⟨_, rfl⟩
        ((refine takeY 8 (v := ?_) rfl (by kernel_rfl) (by kernel_rfl) (by kernel_rfl) (fun _ _ _ h => h) (by rfl) (by assumption) ?_ ?_; rotate_left; · (intro w hSw; (try dsimp only at hSw); go_simp; (first | done | with_reducible rfl))))
        (try simp only [Act.put, List.setIfInBounds_toArray, List.set_cons_zero, List.set_cons_succ])
        refine wpAnyH_done (by kernel_rfl) ?_ _
        go_wp2_with fail
        go_meet
        have hl1 : (hs.map hv).length = n := by rw [List.length_map]; exact HLEN.out
        have hl2 : (((List.range n).map Int.ofNat).map (Value.int .i64)).length = n := by simp
        exact ⟨hp, hr, g, rfl, rfl, HP.out, by rw [hl1]; exact HR.out, by rw [hl2]; exact HG.out, HBL.out, HP0.out⟩
      · go_simp
        (refine hK.out _ _ trivial (fun hHeld => ?_))
        clear hK K
        have HP := Lib.hid (Blk.new wc 33 #[.slice none 0 0])
        have HP0 := Lib.hid HBL.out.size
        replace HG := Lib.hid (HG.out.alloc (.cells #[.slice none 0 0] 33))
        replace HBL := Lib.hid (HBL.out.alloc HBL.out.size (.cells #[.slice none 0 0] 33))
        generalize hwn : wc.alloc (.cells #[.slice none 0 0] 33) = wn at *
        clear hwn
        generalize hhp : wc.heap.size = hp at *
        clear hhp
        obtain ⟨wc, rfl⟩ : ∃ x : World, x = wn := ⟨_, rfl⟩
        refine stepH 2 rfl (by kernel_rfl) (by rfl) (fun K hK => ?_)
        obtain ⟨w2, hmk, hown, hg⟩ := run_makeSlice_full (P := Try.prog) wc w.heap.size 33 22 i1 (.complex .f64 0 0) 1 Try.underlying33 ki0 kz0 kz1 .i64 .i64 n (by omega) (by rw [kz2]; omega) (by unfold maxLen; omega) (HBL.out.size)
        go_simp
        (refine hK.out _ _ trivial (fun hHeld => ?_))
        clear hK K
        rw [made_one _ rfl] at hown
        have HR := Lib.hid hown
        replace HBL := Lib.hid (HBL.out.grown hg HBL.out.size (fun _ e => by cases e))
        replace HG := Lib.hid (HG.out.kept hg (.inr (by intro e; cases e)))
        replace HP := Lib.hid (HP.out.grown hg (by intro e; cases e))
        clear hmk hown hg
        generalize wc.heap.size = hr at *
        obtain ⟨wc, rfl⟩ : ∃ x : World, x = w2 := ⟨_, rfl⟩
        refine stepH 7 rfl (by kernel_rfl) (by rfl) (fun K hK => ?_)
        have c0 := (HP.out.cell 0).trans (show _ = some (.slice none 0 0) from rfl)
        have z0 := HP.out.frozen 0
        go_simp
        (refine hK.out _ _ trivial (fun hHeld => ?_))
        clear hK K c0 z0
        have hsg : wc.grownBy (wc.setCell ⟨hp, 0, none⟩ (.slice (some ⟨hr, 0, none⟩) n n)) (some hp) := only_setCell (World.grownBy.refl wc _) (.inl rfl) _
        replace HR := Lib.hid (HR.out.kept hsg (.inr fun e => own_ne_blk HR.out HP.out (by decide) (Option.some.inj e)))
        replace HG := Lib.hid (HG.out.kept hsg (.inr fun e => own_ne_blk HG.out HP.out (by decide) (Option.some.inj e)))
        replace HBL := Lib.hid (HBL.out.grown hsg HBL.out.size (fun _ e => by cases e; exact HP0.out))
        have HP2 := Lib.hid (show Blk (wc.setCell ⟨hp, 0, none⟩ (.slice (some ⟨hr, 0, none⟩) n n)) hp 33 #[.slice (some ⟨hr, 0, none⟩) n n] from HP.out.set_ 0 _)
        clear HP hsg
        have HP := HP2
        clear HP2
        generalize hwn : wc.setCell ⟨hp, 0, none⟩ (.slice (some ⟨hr, 0, none⟩) n n) = wn at *
        clear hwn
        obtain ⟨wc, rfl⟩ : ∃ x : World, x = wn := ⟨_, rfl⟩
        ((refine takeY 8 (v := ?_) rfl (by kernel_rfl) (by kernel_rfl) (by kernel_rfl) (fun _ _ _ h => h) (by rfl) (by assumption) ?_ ?_; rotate_left; · (intro w hSw; (try dsimp only at hSw); go_simp; (first | done | with_reducible rfl))))
        (try simp only [Act.put, List.setIfInBounds_toArray, List.set_cons_zero, List.set_cons_succ])
        refine wpAnyH_done (by kernel_rfl) ?_ _
        go_wp2_with fail
        go_meet
        have hl1 : (hs.map hv).length = n := by rw [List.length_map]; exact HLEN.out
        have hl2 : (((List.range n).map Int.ofNat).map (Value.int .i64)).length = n := by simp
        exact ⟨hp, hr, g, rfl, rfl, HP.out, by rw [hl1]; exact HR.out, by rw [hl2]; exact HG.out, HBL.out, HP0.out⟩
    · go_simp
      (refine hK.out _ _ trivial (fun hHeld => ?_))
      clear hK K
      have HP := Lib.hid (Blk.new wc 33 #[.slice none 0 0])
      have HP0 := Lib.hid HBL.out.size
      replace HBL := Lib.hid (HBL.out.alloc HBL.out.size (.cells #[.slice none 0 0] 33))
      generalize hwn : wc.alloc (.cells #[.slice none 0 0] 33) = wn at *
      clear hwn
      generalize hhp : wc.heap.size = hp at *
      clear hhp
      obtain ⟨wc, rfl⟩ : ∃ x : World, x = wn := ⟨_, rfl⟩
      refine wpAnyH_ready (rs := [2, 5]) (by kernel_rfl) (by simp) ?_
      refine consH 2 rfl (by rfl) (fun K hK => ?_) (consH 5 rfl (by rfl) (fun K hK => ?_) (AllReadyH.nil))
      · obtain ⟨w2, hmk, hown, hg⟩ := run_makeSlice_full (P := Try.prog) wc w.heap.size 33 22 i1 (.complex .f64 0 0) 1 Try.underlying33 ki0 kz0 kz1 .i64 .i64 n (by omega) (by rw [kz2]; omega) (by unfold maxLen; omega) (HBL.out.size)
        go_simp
        (refine hK.out _ _ trivial (fun hHeld => ?_))
        clear hK K
        rw [made_one _ rfl] at hown
        have HR := Lib.hid hown
        replace HBL := Lib.hid (HBL.out.grown hg HBL.out.size (fun _ e => by cases e))
        replace HP := Lib.hid (HP.out.grown hg (by intro e; cases e))
        clear hmk hown hg
        generalize wc.heap.size = hr at *
        obtain ⟨wc, rfl⟩ : ∃ x : World, x = w2 := ⟨_, rfl⟩
        refine wpAnyH_ready (rs := [5, 7]) (by kernel_rfl) (by simp) ?_
        refine consH 5 rfl (by rfl) (fun K hK => ?_) (consH 7 rfl (by rfl) (fun K hK => ?_) (AllReadyH.nil))
        · obtain ⟨w2, hmk, hown, hg⟩ := run_makeSlice_full (P := Try.prog) wc w.heap.size 31 3 i0 (.int .i64 0) 1 Try.underlying31 hi0 hz0 hz1 .i64 .i64 n (by omega) (by rw [hz2]; omega) (by unfold maxLen; omega) (HBL.out.size)
          go_simp
          (refine hK.out _ _ trivial (fun hHeld => ?_))
          clear hK K
          rw [made_one _ rfl] at hown
          have HG := Lib.hid hown
          replace HBL := Lib.hid (HBL.out.grown hg HBL.out.size (fun _ e => by cases e))
          replace HR := Lib.hid (HR.out.kept hg (.inr (by intro e; cases e)))
          replace HP := Lib.hid (HP.out.grown hg (by intro e; cases e))
          clear hmk hown hg
          generalize wc.heap.size = g at *
          obtain ⟨wc, rfl⟩ : ∃ x : World, x = w2 := ⟨_, rfl⟩
          refine stepH 7 rfl (by kernel_rfl) (by rfl) (fun K hK => ?_)
          have c0 := (HP.out.cell 0).trans (show _ = some (.slice none 0 0) from rfl)
          have z0 := HP.out.frozen 0
          go_simp
          (refine hK.out _ _ trivial (fun hHeld => ?_))
          clear hK K c0 z0
          have hsg : wc.grownBy (wc.setCell ⟨hp, 0, none⟩ (.slice (some ⟨hr, 0, none⟩) n n)) (some hp) := only_setCell (World.grownBy.refl wc _) (.inl rfl) _
          replace HR := Lib.hid (HR.out.kept hsg (.inr fun e => own_ne_blk HR.out HP.out (by decide) (Option.some.inj e)))
          replace HG := Lib.hid (HG.out.kept hsg (.inr fun e => own_ne_blk HG.out HP.out (by decide) (Option.some.inj e)))
          replace HBL := Lib.hid (HBL.out.grown hsg HBL.out.size (fun _ e => by cases e; exact HP0.out))
          have HP2 := Lib.hid (show Blk (wc.setCell ⟨hp, 0, none⟩ (.slice (some ⟨hr, 0, none⟩) n n)) hp 33 #[.slice (some ⟨hr, 0, none⟩) n n] from HP.out.set_ 0 _)
          clear HP hsg
          have HP := HP2
          clear HP2
          generalize hwn : wc.setCell ⟨hp, 0, none⟩ (.slice (some ⟨hr, 0, none⟩) n n) = wn at *
          clear hwn
          obtain ⟨wc, rfl⟩ : ∃ x : World, x = wn := ⟨_, rfl⟩
          ((refine takeY 8 (v := ?_) rfl (by kernel_rfl) (by kernel_rfl) (by kernel_rfl) (fun _ _ _ h => h) (by rfl) (by assumption) ?_ ?_; rotate_left; · (intro w hSw; (try dsimp only at hSw); go_simp; (first | done | with_reducible rfl))))
          (try simp only [Act.put, List.setIfInBounds_toArray, List.set_cons_zero, List.set_cons_succ])
          refine wpAnyH_done (by kernel_rfl) ?_ _
          go_wp2_with fail
          go_meet
          have hl1 : (hs.map hv).length = n := by rw [List.length_map]; exact HLEN.out
          have hl2 : (((List.range n).map Int.ofNat).map (Value.int .i64)).length = n := by simp
          exact ⟨hp, hr, g, rfl, rfl, HP.out, by rw [hl1]; exact HR.out, by rw [hl2]; exact HG.out, HBL.out, HP0.out⟩
        · have c0 := (HP.out.cell 0).trans (show _ = some (.slice none 0 0) from rfl)
          have z0 := HP.out.frozen 0
          go_simp
          (refine hK.out _ _ trivial (fun hHeld => ?_))
          clear hK K c0 z0
          have hsg : wc.grownBy (wc.setCell ⟨hp, 0, none⟩ (.slice (some ⟨hr, 0, none⟩) n n)) (some hp) := only_setCell (World.grownBy.refl wc _) (.inl rfl) _
          replace HR := Lib.hid (HR.out.kept hsg (.inr fun e => own_ne_blk HR.out HP.out (by decide) (Option.some.inj e)))
          replace HBL := Lib.hid (HBL.out.grown hsg HBL.out.size (fun _ e => by cases e; exact HP0.out))
          have HP2 := Lib.hid (show Blk (wc.setCell ⟨hp, 0, none⟩ (.slice (some ⟨hr, 0, none⟩) n n)) hp 33 #[.slice (some ⟨hr, 0, none⟩) n n] from HP.out.set_ 0 _)
          clear HP hsg
          have HP := HP2
          clear HP2
          generalize hwn : wc.setCell ⟨hp, 0, none⟩ (.slice (some ⟨hr, 0, none⟩) n n) = wn at *
          clear hwn
          obtain ⟨wc, rfl⟩ : ∃ x : World, x = wn := ⟨_, rfl⟩
          refine stepH 5 rfl (by kernel_rfl) (by rfl) (fun K hK => ?_)
          obtain ⟨w2, hmk, hown, hg⟩ := run_makeSlice_full (P := Try.prog) wc w.heap.size 31 3 i0 (.int .i64 0) 1 Try.underlying31 hi0 hz0 hz1 .i64 .i64 n (by omega) (by rw [hz2]; omega) (by unfold maxLen; omega) (HBL.out.size)
          go_simp
          (refine hK.out _ _ trivial (fun hHeld => ?_))
          clear hK K
          rw [made_one _ rfl] at hown
          have HG := Lib.hid hown
          replace HBL := Lib.hid (HBL.out.grown hg HBL.out.size (fun _ e => by cases e))
          replace HR := Lib.hid (HR.out.kept hg (.inr (by intro e; cases e)))
          replace HP := Lib.hid (HP.out.grown hg (by intro e; cases e))
          clear hmk hown hg
          generalize wc.heap.size = g at *
          obtain ⟨wc, rfl⟩ : ∃ x : World, x = w2 := ⟨_, rfl⟩
          ((refine takeY 8 (v := ?_) rfl (by kernel_rfl) (by kernel_rfl) (by kernel_rfl) (fun _ _ _ h => h) (by rfl) (by assumption) ?_ ?_; rotate_left; · (intro w hSw; (try dsimp only at hSw); go_simp; (first | done | with_reducible rfl))))
          (try simp only [Act.put, List.setIfInBounds_toArray, List.set_cons_zero, List.set_cons_succ])
          refine wpAnyH_done (by kernel_rfl) ?_ _
          go_wp2_with fail
          go_meet
          have hl1 : (hs.map hv).length = n := by rw [List.length_map]; exact HLEN.out
          have hl2 : (((List.range n).map Int.ofNat).map (Value.int .i64)).length = n := by simp
          exact ⟨hp, hr, g, rfl, rfl, HP.out, by rw [hl1]; exact HR.out, by rw [hl2]; exact HG.out, HBL.out, HP0.out⟩
      · obtain ⟨w2, hmk, hown, hg⟩ := run_makeSlice_full (P := Try.prog) wc w.heap.size 31 3 i0 (.int .i64 0) 1 Try.underlying31 hi0 hz0 hz1 .i64 .i64 n (by omega) (by rw [hz2]; omega) (by unfold maxLen; omega) (HBL.out.size)
        go_simp
        (refine hK.out _ _ trivial (fun hHeld => ?_))
        clear hK K
        rw [made_one _ rfl] at hown
        have HG := Lib.hid hown
        replace HBL := Lib.hid (HBL.out.grown hg HBL.out.size (fun _ e => by cases e))
        replace HP := Lib.hid (HP.out.grown hg (by intro e; cases e))
        clear hmk hown hg
        generalize wc.heap.size = g at *
        obtain ⟨wc, rfl⟩ : ∃ x : World, x = w2 := ⟨_, rfl⟩
        refine stepH 2 rfl (by kernel_rfl) (by rfl) (fun K hK => ?_)
        obtain ⟨w2, hmk, hown, hg⟩ := run_makeSlice_full (P := Try.prog) wc w.heap.size 33 22 i1 (.complex .f64 0 0) 1 Try.underlying33 ki0 kz0 kz1 .i64 .i64 n (by omega) (by rw [kz2]; omega) (by unfold maxLen; omega) (HBL.out.size)
        go_simp
        (refine hK.out _ _ trivial (fun hHeld => ?_))
        clear hK K
        rw [made_one _ rfl] at hown
        have HR := Lib.hid hown
        replace HBL := Lib.hid (HBL.out.grown hg HBL.out.size (fun _ e => by cases e))
        replace HG := Lib.hid (HG.out.kept hg (.inr (by intro e; cases e)))
        replace HP := Lib.hid (HP.out.grown hg (by intro e; cases e))
        clear hmk hown hg
        generalize wc.heap.size = hr at *
        obtain ⟨wc, rfl⟩ : ∃ x : World, x = w2 := ⟨_, rfl⟩
        refine stepH 7 rfl (by kernel_rfl) (by rfl) (fun K hK => ?_)
        have c0 := (HP.out.cell 0).trans (show _ = some (.slice none 0 0) from rfl)
        have z0 := HP.out.frozen 0
        go_simp
        (refine hK.out _ _ trivial (fun hHeld => ?_))
        clear hK K c0 z0
        have hsg : wc.grownBy (wc.setCell ⟨hp, 0, none⟩ (.slice (some ⟨hr, 0, none⟩) n n)) (some hp) := only_setCell (World.grownBy.refl wc _) (.inl rfl) _
        replace HR := Lib.hid (HR.out.kept hsg (.inr fun e => own_ne_blk HR.out HP.out (by decide) (Option.some.inj e)))
        replace HG := Lib.hid (HG.out.kept hsg (.inr fun e => own_ne_blk HG.out HP.out (by decide) (Option.some.inj e)))
        replace HBL := Lib.hid (HBL.out.grown hsg HBL.out.size (fun _ e => by cases e; exact HP0.out))
        have HP2 := Lib.hid (show Blk (wc.setCell ⟨hp, 0, none⟩ (.slice (some ⟨hr, 0, none⟩) n n)) hp 33 #[.slice (some ⟨hr, 0, none⟩) n n] from HP.out.set_ 0 _)
        clear HP hsg
        have HP := HP2
        clear HP2
        generalize hwn : wc.setCell ⟨hp, 0, none⟩ (.slice (some ⟨hr, 0, none⟩) n n) = wn at *
        clear hwn
        obtain ⟨wc, rfl⟩ : ∃ x : World, x = wn := ⟨_, rfl⟩
        ((refine takeY 8 (v := ?_) rfl (by kernel_rfl) (by kernel_rfl) (by kernel_rfl) (fun _ _ _ h => h) (by rfl) (by assumption) ?_ ?_; rotate_left; · (intro w hSw; (try dsimp only at hSw); go_simp; (first | done | with_reducible rfl))))
        (try simp only [Act.put, List.setIfInBounds_toArray, List.set_cons_zero, List.set_cons_succ])
        refine wpAnyH_done (by kernel_rfl) ?_ _
        go_wp2_with fail
        go_meet
        have hl1 : (hs.map hv).length = n := by rw [List.length_map]; exact HLEN.out
        have hl2 : (((List.range n).map Int.ofNat).map (Value.int .i64)).length = n := by simp
        exact ⟨hp, hr, g, rfl, rfl, HP.out, by rw [hl1]; exact HR.out, by rw [hl2]; exact HG.out, HBL.out, HP0.out⟩
  case rest =>
    obtain ⟨hp, hr, g, rfl, rfl, hm⟩ := hcut
    have HM0 := Lib.hid hm
    clear hm
    go_wp2_with fail
    go_loopw [15] (LoopR w hp hr g n hs) (fun v _ => n - cnt v)
    case atStart => exact ⟨0, rfl, Nat.zero_le _, HM0.out⟩
    case round =>
      clear HM0
      obtain ⟨t, rfl, ht, hm⟩ := hrel
      have HM := Lib.hid hm
      clear hm
      by_cases htn : t < n
      · have htn' : decide ((t : Int) < (n : Int)) = true := by simp; omega
        obtain ⟨ad, u, rfl, _, hu, hc⟩ := (HRD.out.below (HM.out.old.mono hB)).at_ htn
        have hx : hs[t]? = some (hAt hs t) := by
          have := HLEN.out
          unfold hAt
          rw [List.getD_eq_getElem?_getD, List.getElem?_eq_getElem (by omega)]; rfl
        rw [List.getElem?_map, hx] at hu
        obtain rfl : hv (hAt hs t) = u := by cases hu; rfl
        have hrt : Rgt (hAt hs t) := HRG.out _ (List.mem_of_getElem? hx)
        have HX := Lib.hid hx
        obtain ⟨⟨r1, r2⟩, r3, r4⟩ := hrt
        have HPA := Lib.hid (fun W => hparts_any _ _ (hAt hs t).1 (hAt hs t).2 W (F_is _) (F_is _) ⟨r1, r2⟩ ⟨r3, r4⟩)
        have HOF := Lib.hid (show ∀ W, Calls Try.prog 18 #[.int .i64 (hAt hs t).1, .int .i64 (hAt hs t).2] W fun e w' => e = .returned (.complex .f64 (F (hAt hs t).1) (F (hAt hs t).2)) ∧ W = w' from fun W =>
          (hof_any _ _ W (by omega) (by omega)).mono fun e w' ⟨he, hw⟩ => ⟨by rw [he, show min (hAt hs t).1 1048576 = (hAt hs t).1 by omega, show min (hAt hs t).2 1048576 = (hAt hs t).2 by omega], hw⟩)
        unfold hv at hc
        clear hx hu r1 r2 r3 r4
        go_wp2_with fail
        have HP := Lib.hid HM.out.p.drew
        have HR := Lib.hid (show wr.drew.ownsRow _ _ _ _ _ _ from HM.out.r.drew)
        have HG := Lib.hid (show wr.drew.ownsRow _ _ _ _ _ _ from HM.out.o.drew)
        have HBL := Lib.hid (show Below w.heap.size w wr.drew from below_drewN HM.out.old 1)
        have HP0 := Lib.hid HM.out.hp0
        refine wp_region_held_drew (S := (fun w' => w'.cell? ⟨hp, 0, none⟩ = some (.slice (some ⟨hr, 0, none⟩) n n))) (by kernel_rfl) ?_ (fun hHeld => ?_)
        · exact (HP.out.cell 0).trans rfl
        generalize wr.drew = wc at *
        ((refine takeY 0 (v := ?_) rfl (by kernel_rfl) (by kernel_rfl) (by kernel_rfl) (fun _ _ _ h => h) (by rfl) (by assumption) ?_ ?_; rotate_left; · (intro w hSw; (try dsimp only at hSw); go_simp; (first | done | with_reducible rfl))))
        (try simp only [Act.put, List.setIfInBounds_toArray, List.set_cons_zero, List.set_cons_succ])
        ((refine takeY 1 (v := ?_) rfl (by kernel_rfl) (by kernel_rfl) (by kernel_rfl) (fun _ _ _ h => h) (by rfl) (by assumption) ?_ ?_; rotate_left; · (intro w hSw; (try dsimp only at hSw); go_simp; (first | done | with_reducible rfl))))
        (try simp only [Act.put, List.setIfInBounds_toArray, List.set_cons_zero, List.set_cons_succ])
        ((refine takeY 2 (v := ?_) rfl (by kernel_rfl) (by kernel_rfl) (by kernel_rfl) (fun _ _ _ h => h) (by rfl) (by assumption) ?_ ?_; rotate_left; · (intro w hSw; (try dsimp only at hSw); go_simp; (first | done | with_reducible rfl))))
        (try simp only [Act.put, List.setIfInBounds_toArray, List.set_cons_zero, List.set_cons_succ])
        ((refine takeY 3 (v := ?_) rfl (by kernel_rfl) (by kernel_rfl) (by kernel_rfl) (fun _ _ _ h => h) (by rfl) (by assumption) ?_ ?_; rotate_left; · (intro w hSw; (try dsimp only at hSw); go_simp; (first | done | with_reducible rfl))))
        (try simp only [Act.put, List.setIfInBounds_toArray, List.set_cons_zero, List.set_cons_succ])
        ((refine takeY 4 (v := ?_) rfl (by kernel_rfl) (by kernel_rfl) (by kernel_rfl) (fun _ _ _ h => h) (by rfl) (by assumption) ?_ ?_; rotate_left; · (intro w hSw; (try dsimp only at hSw); go_simp; (first | done | with_reducible rfl))))
        (try simp only [Act.put, List.setIfInBounds_toArray, List.set_cons_zero, List.set_cons_succ])
        ((refine takeY 9 (v := ?_) rfl (by kernel_rfl) (by kernel_rfl) (by kernel_rfl) (fun _ _ _ h => h) (by rfl) (by assumption) ?_ ?_; rotate_left; · (intro w hSw; (try dsimp only at hSw); go_simp; (first | done | with_reducible rfl))))
        (try simp only [Act.put, List.setIfInBounds_toArray, List.set_cons_zero, List.set_cons_succ])
        refine stepH 5 rfl (by kernel_rfl) (by rfl) (fun K hK => ?_)
        go_simp
        (with_reducible refine (HPA.out _).mono ?_)
        rintro e w1 ⟨rfl, rfl⟩
        (refine hK.out _ _ hHeld (fun hHeld => ?_))
        clear hK K
        ((refine takeY 6 (v := ?_) rfl (by kernel_rfl) (by kernel_rfl) (by kernel_rfl) (fun _ _ _ h => h) (by rfl) (by assumption) ?_ ?_; rotate_left; · (intro w hSw; (try dsimp only at hSw); go_simp; (first | done | with_reducible rfl))))
        (try simp only [Act.put, List.setIfInBounds_toArray, List.set_cons_zero, List.set_cons_succ])
        ((refine takeY 7 (v := ?_) rfl (by kernel_rfl) (by kernel_rfl) (by kernel_rfl) (fun _ _ _ h => h) (by rfl) (by assumption) ?_ ?_; rotate_left; · (intro w hSw; (try dsimp only at hSw); go_simp; (first | done | with_reducible rfl))))
        (try simp only [Act.put, List.setIfInBounds_toArray, List.set_cons_zero, List.set_cons_succ])
        refine stepH 8 rfl (by kernel_rfl) (by rfl) (fun K hK => ?_)
        go_simp
        (with_reducible refine (HOF.out _).mono ?_)
        rintro e w1 ⟨rfl, rfl⟩
        (refine hK.out _ _ hHeld (fun hHeld => ?_))
        clear hK K
        ((refine takeY 10 (v := ?_) rfl (by kernel_rfl) (by kernel_rfl) (by kernel_rfl) (fun _ _ _ h => h) (by rfl) (by assumption) ?_ ?_; rotate_left; · (intro w hSw; (try dsimp only at hSw); go_simp; (first | done | with_reducible rfl))))
        (try simp only [Act.put, List.setIfInBounds_toArray, List.set_cons_zero, List.set_cons_succ])
        refine stepH 11 rfl (by kernel_rfl) (by rfl) (fun K hK => ?_)
        have hstc : ∀ (a : Addr) (x y : Nat) (m : Mode) (w : World), (store a (.complex .f64 x y) m).run Try.prog w = stored Try.prog w a (.complex .f64 x y) m := fun a x y m w => run_store Try.prog w a _ m rfl
        obtain ⟨u, hcu⟩ : ∃ u, wc.cell? ⟨hr, t, none⟩ = some u := ⟨_, (HR.out.cellAt t (by omega)).trans (List.getElem?_eq_getElem (by have := HR.out.1; omega))⟩
        have hzu := HR.out.frozenAt t
        go_simp
        (refine hK.out _ _ ((HP.out.far (p := ⟨hr, t, none⟩) (own_ne_blk HR.out HP.out (by decide)).symm _).cell 0 |>.trans rfl) (fun hHeld => ?_))
        clear hK K hcu hzu hstc
        have hsg : wc.grownBy (wc.setCell ⟨hr, t, none⟩ (.complex .f64 (F (hAt hs t).1) (F (hAt hs t).2))) (some hr) := only_setCell (World.grownBy.refl wc _) (.inl rfl) _
        replace HG := Lib.hid (HG.out.kept hsg (.inr fun e => own_ne_own HG.out HR.out (by decide) (Option.some.inj e)))
        replace HP := Lib.hid (HP.out.far (p := ⟨hr, t, none⟩) (own_ne_blk HR.out HP.out (by decide)).symm (.complex .f64 (F (hAt hs t).1) (F (hAt hs t).2)))
        replace HBL := Lib.hid (HBL.out.grown hsg HBL.out.size (fun _ e => by cases e; exact (HR.out.lt _ rfl).1))
        replace HR := Lib.hid (HR.out.stored t (.complex .f64 (F (hAt hs t).1) (F (hAt hs t).2))).1
        clear hsg
        generalize hwn : wc.setCell ⟨hr, t, none⟩ (.complex .f64 (F (hAt hs t).1) (F (hAt hs t).2)) = wn at *
        clear hwn
        obtain ⟨wc, rfl⟩ : ∃ x : World, x = wn := ⟨_, rfl⟩
        ((refine takeY 12 (v := ?_) rfl (by kernel_rfl) (by kernel_rfl) (by kernel_rfl) (fun _ _ _ h => h) (by rfl) (by assumption) ?_ ?_; rotate_left; · (intro w hSw; (try dsimp only at hSw); go_simp; (first | done | with_reducible rfl))))
        (try simp only [Act.put, List.setIfInBounds_toArray, List.set_cons_zero, List.set_cons_succ])
        refine stepH 13 rfl (by kernel_rfl) (by rfl) (fun K hK => ?_)
        obtain ⟨u, hcu⟩ : ∃ u, wc.cell? ⟨g, t, none⟩ = some u := ⟨_, (HG.out.cellAt t (by omega)).trans (List.getElem?_eq_getElem (by have := HG.out.1; omega))⟩
        have hzu := HG.out.frozenAt t
        go_simp
        (refine hK.out _ _ ((HP.out.far (p := ⟨g, t, none⟩) (own_ne_blk HG.out HP.out (by decide)).symm _).cell 0 |>.trans rfl) (fun hHeld => ?_))
        clear hK K hcu hzu
        have hsg : wc.grownBy (wc.setCell ⟨g, t, none⟩ (.int .i64 (t : Int))) (some g) := only_setCell (World.grownBy.refl wc _) (.inl rfl) _
        replace HR := Lib.hid (HR.out.kept hsg (.inr fun e => own_ne_own HR.out HG.out (by decide) (Option.some.inj e)))
        replace HP := Lib.hid (HP.out.far (p := ⟨g, t, none⟩) (own_ne_blk HG.out HP.out (by decide)).symm (.int .i64 (t : Int)))
        replace HBL := Lib.hid (HBL.out.grown hsg HBL.out.size (fun _ e => by cases e; exact (HG.out.lt _ rfl).1))
        replace HG := Lib.hid (HG.out.stored t (.int .i64 (t : Int))).1
        clear hsg
        generalize hwn : wc.setCell ⟨g, t, none⟩ (.int .i64 (t : Int)) = wn at *
        clear hwn
        obtain ⟨wc, rfl⟩ : ∃ x : World, x = wn := ⟨_, rfl⟩
        refine wpAnyH_done (by kernel_rfl) ?_ _
        have HN := Lib.hid (show RkM w hp hr g n hs (t + 1) wc from by
          have hr9 := HR.out
          have hg9 := HG.out
          rw [fill_set (by rw [List.getElem?_map, HX.out]; rfl)] at hr9
          rw [fill_set (by simp [htn])] at hg9
          exact ⟨HP.out, hr9, hg9, HBL.out, HP0.out⟩)
        clear HP HR HG HBL hHeld
        go_wp2
        go_roundw
        case rel => exact ⟨t + 1, by go_num, htn, HN.out⟩
        case measure => simp [cnt]; omega
      · have htn' : decide ((t : Int) < (n : Int)) = false := by simp; omega
        have hte : t = n := by omega
        subst hte
        have hl1 : (hs.map hv).length = t := by rw [List.length_map]; exact HLEN.out
        have hrow : RowX wr w.heap.size g t t ((List.range t).map Int.ofNat) := by
          have := HM.out.o
          rw [List.take_of_length_le (by simp), show (((List.range t).map Int.ofNat).map (Value.int .i64)).length - t = 0 by simp, List.replicate_zero, List.append_nil] at this
          exact this
        have hheap : HMem wr hp hr t hs := by
          have h1 := HM.out.r
          rw [List.take_of_length_le (by omega), show (hs.map hv).length - t = 0 by omega, List.replicate_zero, List.append_nil] at h1
          exact ⟨HM.out.p, ownsRow_mono h1 (Nat.zero_le _), HRG.out⟩
        have hel : ∀ k, k < t → ele ((List.range t).map Int.ofNat) k = (k : Int) := fun k hk => by
          unfold ele
          rw [List.getD_eq_getElem?_getD, List.getElem?_map, List.getElem?_range hk]; rfl
        have CS := Lib.hid (HSO.out w.heap.size g t t hp hr hs _ wr hrow hheap ⟨own_ne_blk HM.out.o HM.out.p (by decide), own_ne_own HM.out.o HM.out.r (by decide)⟩ (fun x hx => by
          obtain ⟨k, hk, rfl⟩ := List.mem_map.1 hx
          have := List.mem_range.1 hk
          constructor
          · exact Int.natCast_nonneg k
          · show (k : Int) < t; omega) (fun p q _ h2 h3 => by rw [hel p (by omega), hel q h3]; omega) (Nat.le_refl _))
        clear hrow hheap hel hl1
        have hmf : ∀ (fn : Fn) (first cap : Array Value) (w : World), (Instr.makeFunc fn first cap).run Try.prog w = .ok (.func fn first cap) w := fun _ _ _ _ => rfl
        go_wp2_with fail
        refine CS.out.mono ?_
        rintro e w1 ⟨rfl, d', hr', hs'⟩
        have HF := Lib.hid (show RankIs w t hs (.returned (.slice (some ⟨g, 0, none⟩) t t)) w1 from ⟨g, d', rfl, hr'.own, hr'.seg.perm, hs', HM.out.old.grown hr'.grown HM.out.old.size (fun _ e => by cases e; exact (HM.out.o.lt _ rfl).1)⟩)
        clear hr' hs'
        go_wp2
        go_ret
        exact HF.out
end Go.Proofs.Ytghniddefhdmmaa
