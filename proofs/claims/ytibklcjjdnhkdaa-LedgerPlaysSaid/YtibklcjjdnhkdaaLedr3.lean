/- What Get, Do and List of package demesneref11 do: contracts. -/
import Derived.Test.YtibklcjjdnhkdaaLedr2
namespace Go.Proofs.Ytibklcjjdnhkdaa
open Go.RowKit Mf

/-- No entry beyond the frames. -/
theorem ent_out {n : Int} {f : Int → Option (Int × Int)} (h : ∀ k, (f k).isSome = true → 0 ≤ k ∧ k < n) {k : Int} (hk : k < 0 ∨ n ≤ k) : ent f k = (0, 0) := by
  unfold ent
  cases hf : f k with
  | none => rfl
  | some x => have := h k (by rw [hf]; rfl); omega

set_option maxHeartbeats 1000000 in
theorem rget_any (rb B g n : Nat) (ps : List (Int × Int)) (f : Int → Option (Int × Int)) (frame : Int) (w : World) (h : QAt w rb B g n ps) (hs : Sim n ps f) (hI : ∀ k, (f k).isSome = true → 0 ≤ k ∧ k < (n : Int)) :
    Calls Try.prog 15 #[.pointer (some ⟨rb, 0, none⟩), .int .i64 frame] w fun e w' => e = .returned (.agg #[.int .i64 (ent f frame).1, .int .i64 (ent f frame).2]) ∧ Below w.heap.size w w' := by
  have hw0 := h.below ((Below.refl w.heap.size w).alloc (Nat.le_refl _) (.cells #[.int .i64 0, .int .i64 0] 36))
  have c0 := h.c0
  have hrb := h.blk.lt
  by_cases h1 : frame < 0
  · rw [ent_out hI (.inl h1)]
    clear h hs hI hw0
    go_enter Try.func15, Try.ntmps15
    go_wp2
    exact bodyPost_ret (v := .agg #[.int .i64 0, .int .i64 0]) (by simp [results, Try.results15, go_sem]) rfl ⟨rfl, (Below.refl _ _).alloc (Nat.le_refl _) _⟩
  by_cases h2 : (n : Int) ≤ frame
  · rw [ent_out hI (.inr h2)]
    clear h hs hI hw0
    go_enter Try.func15, Try.ntmps15
    go_wp2
    exact bodyPost_ret (v := .agg #[.int .i64 0, .int .i64 0]) (by simp [results, Try.results15, go_sem]) rfl ⟨rfl, (Below.refl _ _).alloc (Nat.le_refl _) _⟩
  obtain ⟨i, hi⟩ : ∃ i : Nat, (i : Int) = frame := ⟨frame.toNat, by omega⟩
  have hil : i < n := by omega
  have hxi := hs i hil
  rw [hi] at hxi
  have d0 := (own_cell (q := 0) enC_len hw0.own hxi (by decide)).trans (show _ = some (.int .i64 (ent f frame).1) from rfl)
  have d1 := (own_cell (q := 1) enC_len hw0.own hxi (by decide)).trans (show _ = some (.int .i64 (ent f frame).2) from rfl)
  rw [Nat.add_zero] at d0
  have hN : frame.toNat = i := by omega
  have hfr : 0 ≤ frame := by omega
  have hfn : frame < (n : Int) := by omega
  generalize ent f frame = x at *
  obtain ⟨s, q⟩ := x
  simp only at d0 d1
  clear h hs hI hw0 hi hil hxi h1 h2
  go_enter Try.func15, Try.ntmps15
  go_wp2
  exact bodyPost_ret (v := .agg #[.int .i64 s, .int .i64 q]) (by simp [results, Try.results15, go_sem]) rfl ⟨rfl, (Below.refl _ _).alloc (Nat.le_refl _) _⟩

/-- What Do leaves. -/
def RDo (w : World) (rb B g n : Nat) (r : Int) (f : Int → Option (Int × Int)) (e : Ending) (w' : World) : Prop := e = .returned (.int .i64 r) ∧ ∃ ps', QAt w' rb B g n ps' ∧ Sim n ps' f ∧ Only (fun k => k = g) w w'

set_option maxHeartbeats 1000000 in
theorem rdo_any (rb B g n : Nat) (ps : List (Int × Int)) (f : Int → Option (Int × Int)) (frame act p : Int) (w : World) (h : QAt w rb B g n ps) (hs : Sim n ps f) (hG : ∀ k, Good (ent f k)) :
    Calls Try.prog 13 #[.pointer (some ⟨rb, 0, none⟩), .int .i64 frame, .int .i64 act, .int .i64 p] w (RDo w rb B g n (mayS n (ent f frame) frame act p) (aftS n f frame act p)) := by
  have hnx := next_any rb B g n ps frame act p (ent f frame) w h (fun i hi hl => by rw [← hi]; exact hs i hl)
  rw [nextR_eq (hG frame)] at hnx
  by_cases hr : mayS n (ent f frame) frame act p = 0
  · rw [hr, if_pos rfl] at hnx
    rw [hr]
    obtain ⟨⟨f1, f2⟩, _⟩ := may0 hr
    obtain ⟨i, hi⟩ : ∃ i : Nat, (i : Int) = frame := ⟨frame.toNat, by omega⟩
    have hil : i < n := by omega
    have hxi := hs i hil
    have hN : frame.toNat = i := by omega
    have HN := Lib.hid hnx
    have H := Lib.hid h
    have HX := Lib.hid hxi
    have HS := Lib.hid hs
    have HI := Lib.hid hi
    have hen := Lib.hid (ent_aft' n f frame act p)
    clear h hs hG hnx hr hxi hi
    go_enter Try.func13, Try.ntmps13
    go_wp2_with fail
    refine HN.out.mono ?_; rintro e w1 ⟨rfl, hb1⟩
    have h1 := H.out.below hb1
    have c0 := h1.c0
    have d0 := (own_cell (q := 0) enC_len h1.own HX.out (by decide)).trans (show _ = some (.int .i64 (ent f ↑i).1) from rfl)
    have d1 := (own_cell (q := 1) enC_len h1.own HX.out (by decide)).trans (show _ = some (.int .i64 (ent f ↑i).2) from rfl)
    have z0 := h1.own.frozenAt (i * 2)
    have z1 := h1.own.frozenAt (i * 2 + 1)
    rw [Nat.add_zero] at d0
    have hgl : g < w1.heap.size := (h1.own.lt g rfl).2
    have hrl : rb < w1.heap.size := h1.blk.lt
    have H1 := Lib.hid h1
    have HB1 := Lib.hid hb1
    clear h1 hb1
    generalize hy : nxt n (ent f frame) frame act p = y at *
    have HY := Lib.hid hy
    clear hy
    obtain ⟨s, q⟩ := y
    go_wp2
    go_region
    go_wp2
    go_ret
    have r1 : QAt (w1.setCell ⟨g, i * 2 + 0, none⟩ (.int .i64 s)) rb B g n (ps.set i (s, (ent f ↑i).2)) := ⟨H1.out.blk.far (p := ⟨g, i * 2 + 0, none⟩) (by have := H1.out.lt; simp; omega) _, own_stored (q := 0) enC_len H1.out.own HX.out (by decide) rfl, by rw [List.length_set]; exact H1.out.len, H1.out.lt⟩
    have hx1 : (ps.set i (s, (ent f ↑i).2))[i]? = some (s, (ent f ↑i).2) := by rw [List.getElem?_set, if_pos rfl, if_pos (by have := H1.out.len; omega)]
    have r2 : QAt ((w1.setCell ⟨g, i * 2 + 0, none⟩ (.int .i64 s)).setCell ⟨g, i * 2 + 1, none⟩ (.int .i64 q)) rb B g n ((ps.set i (s, (ent f ↑i).2)).set i (s, q)) := ⟨r1.blk.far (p := ⟨g, i * 2 + 1, none⟩) (by have := H1.out.lt; simp; omega) _, own_stored (q := 1) enC_len r1.own hx1 (by decide) rfl, by rw [List.length_set]; exact r1.len, H1.out.lt⟩
    rw [List.set_set] at r2
    have hbn := (Below.refl ((w1.setCell ⟨g, i * 2 + 0, none⟩ (.int .i64 s)).setCell ⟨g, i * 2 + 1, none⟩ (.int .i64 q)).heap.size ((w1.setCell ⟨g, i * 2 + 0, none⟩ (.int .i64 s)).setCell ⟨g, i * 2 + 1, none⟩ (.int .i64 q))).alloc (Nat.le_refl _) (.cells #[.int .i64 s, .int .i64 q] 36) |>.drew
    have ho := ((Only.setCell (S := fun k => k = g) (Only.setCell (S := fun k => k = g) (only_fresh HB1.out) (p := ⟨g, i * 2 + 0, none⟩) (.inl rfl) (.int .i64 s)) (p := ⟨g, i * 2 + 1, none⟩) (.inl rfl) (.int .i64 q)).alloc (.cells #[.int .i64 s, .int .i64 q] 36)).drew
    refine ⟨rfl, ps.set i (s, q), r2.below hbn, fun j hj => ?_, ho⟩
    by_cases hji : j = i
    · subst hji
      rw [List.getElem?_set, if_pos rfl, if_pos (by have := H1.out.len; omega), HI.out]
      exact congrArg some hen.out.symm
    · rw [List.getElem?_set, if_neg (fun e => hji e.symm), ent_other (by have := HI.out; omega)]
      exact HS.out j hj
  · rw [if_neg hr] at hnx
    have hne : (mayS n (ent f frame) frame act p == 0) = false := by simpa using hr
    have haf : aftS n f frame act p = f := if_neg hr
    rw [haf]
    have HN := Lib.hid hnx
    have H := Lib.hid h
    have HS := Lib.hid hs
    clear h hs hG hnx hr haf
    generalize mayS n (ent f frame) frame act p = r at *
    go_enter Try.func13, Try.ntmps13
    go_wp2_with fail
    refine HN.out.mono ?_; rintro e w1 ⟨rfl, hb1⟩
    go_wp2
    go_ret
    have hb2 := hb1.trans (((Below.refl w1.heap.size w1).alloc (Nat.le_refl _) (.cells #[.int .i64 0, .int .i64 0] 36)).mono hb1.size)
    exact ⟨rfl, ps, H.out.below hb2, HS.out, only_fresh hb2⟩

/-- The frames below k of a state and a party. -/
def LH (f : Int → Option (Int × Int)) (s p : Int) (k : Nat) : List Int := ((List.range k).map fun i : Nat => (i : Int)).filter fun i => hasS (ent f i) s p

theorem LH_succ (f : Int → Option (Int × Int)) (s p : Int) (k : Nat) : LH f s p (k + 1) = LH f s p k ++ (if hasS (ent f k) s p then [(k : Int)] else []) := by
  unfold LH
  rw [List.range_succ, List.map_append, List.filter_append]
  congr 1
  cases h : hasS (ent f k) s p <;> simp [h]

theorem LH_len (f : Int → Option (Int × Int)) (s p : Int) (k : Nat) : (LH f s p k).length ≤ k := by
  unfold LH
  refine Nat.le_trans (List.length_filter_le _ _) ?_
  simp

theorem LH_frs (f : Int → Option (Int × Int)) (s p : Int) (n : Nat) : LH f s p n = (frs n).filter fun i => hasS (ent f i) s p := by
  unfold LH frs; rw [Int.toNat_natCast]

def LisIs (w : World) (zs : List Int) (e : Ending) (w' : World) : Prop := ∃ v, e = .returned v ∧ w'.ownsRow w.heap.size 3 1 v zs.length (zs.map (Value.int .i64)) ∧ Below w.heap.size w w'
def RelH (w : World) (f : Int → Option (Int × Int)) (s p : Int) (n : Nat) (ov iv : Value) (wr : World) : Prop := ∃ k : Nat, iv = .int .i64 k ∧ k ≤ n ∧ wr.ownsRow w.heap.size 3 1 ov (LH f s p k).length ((LH f s p k).map (Value.int .i64)) ∧ Below w.heap.size w wr

set_option maxHeartbeats 2000000 in
theorem rlist_any (rb B g n : Nat) (ps : List (Int × Int)) (f : Int → Option (Int × Int)) (s p : Int) (w : World) (h : QAt w rb B g n ps) (hs : Sim n ps f) (hn : n ≤ 300) :
    Calls Try.prog 16 #[.pointer (some ⟨rb, 0, none⟩), .int .i64 s, .int .i64 p] w (LisIs w ((frs n).filter fun i => hasS (ent f i) s p)) := by
  obtain ⟨i0, hi0, hz0', hz1, hz2⟩ := info_parts infoI
  have H := Lib.hid h
  have HS := Lib.hid hs
  have HL := Lib.hid hn
  rw [← LH_frs]
  clear h hs hn
  go_enter Try.func16, Try.ntmps16
  go_wp2
  go_loopw [7, 8] (RelH w f s p n) (fun _ i _ => n - (intOf i).toNat)
  case atStart => exact ⟨0, rfl, Nat.zero_le _, World.ownsRow_nil _ _ _ _, Below.refl _ _⟩
  case round =>
    obtain ⟨k, rfl, hk, hown, hbel⟩ := hrel
    have HO := Lib.hid hown
    have HB := Lib.hid hbel
    have hr := H.out.below HB.out
    have c0 := hr.c0
    by_cases hlt : k < n
    · have hxk := HS.out k hlt
      have d0 := (own_cell (q := 0) enC_len hr.own hxk (by decide)).trans (show _ = some (.int .i64 (ent f k).1) from rfl)
      have d1 := (own_cell (q := 1) enC_len hr.own hxk (by decide)).trans (show _ = some (.int .i64 (ent f k).2) from rfl)
      rw [Nat.add_zero] at d0
      have hsu := Lib.hid (LH_succ f s p k)
      have hle := LH_len f s p k
      have hkb : (k : Int) ≤ 300 := by have := HL.out; omega
      clear hr hown hbel hxk
      generalize ent f ↑k = x at *
      obtain ⟨a, b⟩ := x
      simp only at d0 d1
      cases h1 : (a == s)
      · rw [show hasS (a, b) s p = false from by unfold hasS; simp only [h1, Bool.false_and]] at hsu
        go_wp2
        refine ⟨⟨k + 1, by go_num, hlt, ?_, HB.out⟩, by simp only [intOf]; omega⟩
        rw [hsu.out]
        simp only [Bool.false_eq_true, if_false, List.append_nil]
        exact HO.out
      · cases h2 : decide (p < 0)
        · cases h3 : (b == p)
          · rw [show hasS (a, b) s p = false from by unfold hasS; simp only [h1, h2, h3]; rfl] at hsu
            go_wp2
            refine ⟨⟨k + 1, by go_num, hlt, ?_, HB.out⟩, by simp only [intOf]; omega⟩
            rw [hsu.out]
            simp only [Bool.false_eq_true, if_false, List.append_nil]
            exact HO.out
          · rw [show hasS (a, b) s p = true from by unfold hasS; simp only [h1, h2, h3]; rfl] at hsu
            go_wp2_with (first
              | (at_builtin; refine wpList_append_any _ rfl (.tmp 44) (.tmp 46) _ rfl w.heap.size 3 i0 _ 1 8 Try.underlying38 hi0 hz0' hz1 hz2 rfl (by omega) u7 _ _ rfl (HO.out.alloc _) _ (some ⟨wr.heap.size, 0, none⟩) 1 1 [.int .i64 (k : Int)] rfl (reads_one1 _ _ _) (by simp; rfl) (by have := HL.out; unfold maxLen; omega) (by have := HL.out; omega) (by have := HB.out.size; simp; omega) ?_; intro v2 w3 hown2 hg2 hat2)
              | go_in)
            have hb3 := HB.out.trans (((Below.refl _ wr).alloc HB.out.size _).grown hg2 (by have := HB.out.size; simp; omega) (fun g hg => (HO.out.lt g hg).1))
            refine ⟨⟨k + 1, by go_num, hlt, ?_, hb3⟩, by simp only [intOf]; omega⟩
            rw [hsu.out]
            simp only [if_true, List.length_append, List.map_append, List.length_singleton, List.map_cons, List.map_nil]
            exact hown2
        · rw [show hasS (a, b) s p = true from by unfold hasS; simp only [h1, h2]; rfl] at hsu
          go_wp2_with (first
            | (at_builtin; refine wpList_append_any _ rfl (.tmp 44) (.tmp 46) _ rfl w.heap.size 3 i0 _ 1 8 Try.underlying38 hi0 hz0' hz1 hz2 rfl (by omega) u7 _ _ rfl (HO.out.alloc _) _ (some ⟨wr.heap.size, 0, none⟩) 1 1 [.int .i64 (k : Int)] rfl (reads_one1 _ _ _) (by simp; rfl) (by have := HL.out; unfold maxLen; omega) (by have := HL.out; omega) (by have := HB.out.size; simp; omega) ?_; intro v2 w3 hown2 hg2 hat2)
            | go_in)
          have hb3 := HB.out.trans (((Below.refl _ wr).alloc HB.out.size _).grown hg2 (by have := HB.out.size; simp; omega) (fun g hg => (HO.out.lt g hg).1))
          refine ⟨⟨k + 1, by go_num, hlt, ?_, hb3⟩, by simp only [intOf]; omega⟩
          rw [hsu.out]
          simp only [if_true, List.length_append, List.map_append, List.length_singleton, List.map_cons, List.map_nil]
          exact hown2
    · obtain rfl : k = n := by omega
      clear hr hown hbel
      go_wp2
      go_ret
      exact ⟨_, rfl, HO.out, HB.out⟩
end Go.Proofs.Ytibklcjjdnhkdaa
