/- What List of package ledger does: its contract. -/
import Derived.Test.YtibklcjjdnhkdaaLedc
import Derived.Test.YtibklcjjdnhkdaaSor
namespace Go.Proofs.Ytibklcjjdnhkdaa
open Go.RowKit Mf

theorem infoI : (Try.prog.info? 3).map (fun i => (i.zero, i.size, i.bytes)) = some (some (.int .i64 0), 1, 8) := by kernel_rfl

theorem wf_small {k : Nat} (h : k ≤ 1048576) : (Lit.int .i64 (k : Int)).wf = true := by
  simp only [Lit.wf, IntKind.min, IntKind.max, Bool.and_eq_true]
  constructor <;> simp [IntKind.bits, IntKind.signed] <;> omega

theorem reads_one (w : World) (o : Obj) (v : Value) (t : TypeId) : Reads ((w.alloc o).alloc (.cells #[v] t)) ((w.alloc o).alloc (.cells #[v] t)).heap.size 1 (some ⟨w.heap.size + 1, 0, none⟩) 1 [v] := by
  refine ⟨rfl, fun _ => ⟨_, rfl, by simp, fun j u hj => ?_⟩⟩
  cases j with
  | zero =>
    cases hj
    exact World.cell?_alloc_at _ _ _ _ (by simp)
  | succ j => cases hj

theorem ownsRow_mono {w : World} {base base' size n : Nat} {e : TypeId} {v : Value} {xs : List Value} (h : w.ownsRow base e size v n xs) (hb : base' ≤ base) : w.ownsRow base' e size v n xs := by
  obtain ⟨h1, h2⟩ := h
  refine ⟨h1, ?_⟩
  rcases h2 with h2 | ⟨g, cap, cur, e1, e2, e3⟩
  · exact .inl h2
  · exact .inr ⟨g, cap, cur, e1, Nat.le_trans hb e2, e3⟩

theorem reads_one1 (w : World) (v : Value) (t : TypeId) : Reads (w.alloc (.cells #[v] t)) (w.alloc (.cells #[v] t)).heap.size 1 (some ⟨w.heap.size, 0, none⟩) 1 [v] := by
  refine ⟨rfl, fun _ => ⟨_, rfl, by simp, fun j u hj => ?_⟩⟩
  cases j with
  | zero =>
    cases hj
    exact World.cell?_alloc_at _ _ _ _ (by simp)
  | succ j => cases hj

theorem own_below {w w' : World} {base size n : Nat} {e : TypeId} {v : Value} {xs : List Value} (h : w.ownsRow base e size v n xs) (hb : Below w.heap.size w w') : w'.ownsRow base e size v n xs :=
  h.kept (only_of_below hb none) (by cases v.ownBlock with | none => exact .inl rfl | some g => exact .inr (fun e => by cases e))

theorem frs_sorted (n : Int) : (frs n).Pairwise (· < ·) := by
  unfold frs
  rw [List.pairwise_map]
  refine List.Pairwise.imp ?_ (List.pairwise_lt_range (n := n.toNat))
  intro a b h
  omega

/-- The frames below k that are free. -/
def Lf (f : Int → Option (Int × Int)) (k : Nat) : List Int := ((List.range k).map fun i : Nat => (i : Int)).filter fun i => !(f i).isSome

theorem Lf_succ (f : Int → Option (Int × Int)) (k : Nat) : Lf f (k + 1) = Lf f k ++ (if (f k).isSome then [] else [(k : Int)]) := by
  unfold Lf
  rw [List.range_succ, List.map_append, List.filter_append]
  congr 1
  cases h : (f k) <;> simp [h]

theorem Lf_len (f : Int → Option (Int × Int)) (k : Nat) : (Lf f k).length ≤ k := by
  unfold Lf
  refine Nat.le_trans (List.length_filter_le _ _) ?_
  simp

theorem Lf_all {n : Int} {f : Int → Option (Int × Int)} {s p : Int} (hst0 : ∀ k x, f k = some x → x.1 ≠ 0) (hz : hasS (0, 0) s p = true) : Lf f n.toNat = (frs n).filter fun i => hasS (ent f i) s p := by
  unfold Lf frs
  refine List.filter_congr fun i _ => ?_
  cases hf : f i with
  | none => simp [ent, hf, hz]
  | some x =>
    have h1 := hst0 i x hf
    unfold hasS at hz ⊢
    simp [ent, hf] at hz ⊢
    intro e
    omega

set_option maxHeartbeats 1000000 in
theorem list_any (b mb N : Nat) (n : Int) (f : Int → Option (Int × Int)) (s p : Int) (w : World) (h : LedAt w b mb N n f) (hn : 0 ≤ n ∧ n ≤ 1048576) (hks0 : ∀ k, (f k).isSome = true → 0 ≤ k ∧ k < n) (hst0 : ∀ k x, f k = some x → x.1 ≠ 0) :
    Calls Try.prog 19 #[.pointer (some ⟨b, 0, none⟩), .int .i64 s, .int .i64 p] w fun e w' => ∃ v, e = .returned v ∧
      w'.ownsRow w.heap.size 3 1 v (cntF n f s p) (((frs n).filter fun i => hasS (ent f i) s p).map (Value.int .i64)) ∧ Below w.heap.size w w' := by
  have hlt := h.lt
  have c0 := h.c0
  have c1 := h.c1
  have H := Lib.hid h
  clear h
  obtain ⟨i0, hi0, hz0', hz1, hz2⟩ := info_parts infoI
  have hz := has_any (0, 0) s p
  cases hz0 : hasS (0, 0) s p
  · rw [hz0] at hz
    go_enter Try.func19, Try.ntmps19
    go_wp2_with fail
    refine (hz _).mono ?_; rintro e w1 ⟨rfl, hb1⟩
    have h1 := H.out.below hb1
    have c0' := h1.c0
    have c1' := h1.c1
    have hm1 := Lib.hid h1.m
    clear h1 c0 c1
    go_wp2_with (first
      | (at_range; refine wpList_range_f rfl _ _ rfl _ keyed3 Try.underlying3 Try.underlying45 rfl hm1.out ?_; intro w0 cnt hrg0 hg0 hs0)
      | go_in)
    go_frame
    go_loopw [7] (fun v wr => ∃ (left : Int → Bool) (cnt : Nat) (xs : List Int), wr.ownsRow (w1.heap.size + 1) 3 1 v xs.length (xs.map (Value.int .i64)) ∧ RangesF Try.prog 3 .i64 entC wr mb w1.heap.size N f left cnt ∧ Below w.heap.size w wr ∧ w1.heap.size + 1 ≤ wr.heap.size ∧
        xs.Pairwise (· ≠ ·) ∧ ∀ k, k ∈ xs ↔ (f k).isSome = true ∧ left k = false ∧ hasS (ent f k) s p = true)
      (fun _ wr => wr.rangeLeft mb w1.heap.size)
    case atStart => exact ⟨_, cnt, [], World.ownsRow_nil _ _ _ _, hrg0, hb1.grown hg0 hb1.size (fun _ h => by cases h), by omega, List.Pairwise.nil, fun k => by simp; intro h1 h2; rw [h2] at h1; cases h1⟩
    case round =>
      obtain ⟨left, cnt1, xs, hown, hrg, hbel, hsz, hxp, hxs⟩ := hrel
      have HO := Lib.hid hown
      have HB := Lib.hid hbel
      have HX := Lib.hid hxs
      have HP := Lib.hid hxp
      have hl1 := Lib.hid hrg.left_eq
      have hlen : xs.length ≤ 1048576 := by
        have h2 := sub_len hxp (fun k hk => mem_frs.2 (hks0 k ((hxs k).1 hk).1))
        have h3 := frs_len hn.1
        omega
      clear hown hbel hrg0 hg0 hs0 hxs hxp
      go_wp2_with (first
        | (at_next; refine wpList_next_f rfl _ rfl keyed3 Try.underlying3 rfl hrg ?_ ?_)
        | go_in)
      · intro hl0
        have hso := sort_own _ _ _ _ _ HO.out (by omega)
        go_wp2_with fail
        refine hso.mono ?_; rintro e w3 ⟨rfl, hown3, hg3⟩
        go_wp2
        go_ret
        have hpm : xs.Perm ((frs n).filter fun i => hasS (ent f i) s p) := (List.perm_ext_iff_of_nodup HP.out ((frs_nodup n).filter _)).2 fun k => by
          rw [HX.out k, List.mem_filter, mem_frs]
          constructor
          · rintro ⟨h1, _, h2⟩
            exact ⟨hks0 k h1, h2⟩
          · rintro ⟨_, h2⟩
            refine ⟨?_, hl0 k, h2⟩
            cases hf : f k with
            | some x => rfl
            | none =>
              unfold ent at h2
              rw [hf] at h2
              rw [show ((none : Option (Int × Int)).getD (0, 0)) = (0, 0) from rfl, hz0] at h2
              cases h2
        have e1 := srt_eq hpm ((frs_sorted n).filter _)
        rw [e1, hpm.length_eq] at hown3
        have hle := HB.out.size
        exact ⟨_, rfl, ownsRow_mono hown3 (by have := hb1.size; omega), HB.out.grown hg3 HB.out.size (fun g hg => by have h1 := (HO.out.lt g hg).1; have h2 := hb1.size; omega)⟩
      · intro k x1 x2 w2 cnt2 hlk hfx hwk hrg2 hlt2 hg2 hs2 hen0
        have hen : (Instr.entry (.pointer (some ⟨w1.heap.size, 0, none⟩))).run Try.prog w2 = .ok (.tuple #[.int .i64 k, .agg #[.int .i64 x1, .int .i64 x2]]) w2 := hen0
        clear hen0
        have HR2 := Lib.hid hrg2
        have HG2 := Lib.hid hg2
        have he : ent f k = (x1, x2) := by unfold ent; rw [hfx]; rfl
        have hh := has_any (x1, x2) s p
        simp only at hh
        cases hx : hasS (x1, x2) s p
        · rw [hx] at hh
          go_wp2_with fail
          refine (hh _).mono ?_; rintro e w3 ⟨rfl, hb3⟩
          have hbw : Below w2.heap.size w2 w3 := ((Below.refl _ _).alloc (Nat.le_refl _) _).trans (hb3.mono (by simp))
          have HW := Lib.hid hbw
          clear hbw hb3
          have hO3 := own_below (HO.out.kept HG2.out (.inr fun e => by have := (HO.out.lt _ e).1; omega)) HW.out
          have hl := HR2.out.lt
          have hR3 := HR2.out.below HW.out hl.1 hl.2
          have hB3 := (HB.out.grown HG2.out HB.out.size (fun _ e => by cases e; exact hb1.size)).trans (HW.out.mono (by have := HB.out.size; omega))
          have hW3 := HW.out.size
          have H3 := Lib.hid (And.intro hO3 (And.intro hR3 hB3))
          clear hO3 hR3 hB3
          go_wp2
          go_roundw
          case rel =>
            refine ⟨_, cnt2, xs, H3.out.1, H3.out.2.1, H3.out.2.2, by omega, HP.out, fun j => ?_⟩
            rw [HX.out j]
            by_cases hj : j = k
            · subst hj
              rw [he, hx]; simp
            · have hj' : (j == k) = false := by simpa using hj
              simp [hj']
          case measure => rw [H3.out.2.1.left_eq, hl1.out]; omega
        · rw [hx] at hh
          go_wp2_with fail
          refine (hh _).mono ?_; rintro e w3 ⟨rfl, hb3⟩
          have hbw : Below w2.heap.size w2 w3 := ((Below.refl _ _).alloc (Nat.le_refl _) _).trans (hb3.mono (by simp))
          have HW := Lib.hid hbw
          clear hbw hb3
          have hO3 := own_below (HO.out.kept HG2.out (.inr fun e => by have := (HO.out.lt _ e).1; omega)) HW.out
          have hl := HR2.out.lt
          have hR3 := HR2.out.below HW.out hl.1 hl.2
          have hB3 := (HB.out.grown HG2.out HB.out.size (fun _ e => by cases e; exact hb1.size)).trans (HW.out.mono (by have := HB.out.size; omega))
          have hW3 := HW.out.size
          have H3 := Lib.hid (And.intro hO3 (And.intro hR3 hB3))
          clear hO3 hR3 hB3
          go_wp2_with (first
            | (at_builtin; refine wpList_append_any _ rfl (.tmp 55) (.tmp 57) _ rfl (w1.heap.size + 1) 3 i0 _ 1 8 Try.underlying38 hi0 hz0' hz1 hz2 rfl (by omega) u7 _ _ rfl (H3.out.1.alloc _) _ (some ⟨w3.heap.size, 0, none⟩) 1 1 [.int .i64 k] rfl (reads_one1 _ _ _) (by simp; rfl) (by unfold maxLen; omega) (by omega) (by simp; omega) ?_; intro v2 w4 hown2 hg4 hat2)
            | go_in)
          have hbig : Below (w1.heap.size + 1) w3 w4 := ((Below.refl _ _).alloc (by omega) _).grown hg4 (by simp; omega) (fun g hg => (H3.out.1.lt g hg).1)
          have hlm := hm1.out.lt
          have hR4 := H3.out.2.1.below hbig (by omega) (by omega)
          have hnew : k ∉ xs := fun h => by have h1 := ((HX.out k).1 h).2.1; rw [hlk] at h1; cases h1
          refine ⟨⟨_, cnt2, xs ++ [k], by rw [List.length_append, List.map_append]; exact hown2, hR4, H3.out.2.2.trans (hbig.mono (by have := hb1.size; omega)), by have := hbig.size; omega, ?_, fun j => ?_⟩, by rw [hR4.left_eq, hl1.out]; omega⟩
          · rw [List.pairwise_append]
            exact ⟨HP.out, by simp, fun a ha b hb => by rw [List.mem_singleton] at hb; subst hb; intro e; subst e; exact hnew ha⟩
          · rw [List.mem_append, List.mem_singleton, HX.out j]
            by_cases hj : j = k
            · subst hj
              rw [he, hx, hfx]; simp
            · have hj' : (j == k) = false := by simpa using hj
              simp [hj', hj]
  · rw [hz0] at hz
    go_enter Try.func19, Try.ntmps19
    go_wp2_with fail
    refine (hz _).mono ?_; rintro e w1 ⟨rfl, hb1⟩
    have h1 := H.out.below hb1
    have c0' := h1.c0
    have c1' := h1.c1
    have hm1 := Lib.hid h1.m
    clear h1 c0 c1
    go_wp2
    go_loopw [7, 21] (fun v i wr => ∃ k : Nat, i = .int .i64 k ∧ (k : Int) ≤ n ∧ wr.ownsRow w.heap.size 3 1 v (Lf f k).length ((Lf f k).map (Value.int .i64)) ∧ Below w.heap.size w wr) (fun _ i _ => n.toNat - (intOf i).toNat)
    case atStart => exact ⟨0, rfl, hn.1, World.ownsRow_nil _ _ _ _, hb1⟩
    case round =>
      obtain ⟨k, rfl, hk, hown, hbel⟩ := hrel
      have HO := Lib.hid hown
      have HB := Lib.hid hbel
      clear hown hbel
      by_cases hlt : (k : Int) < n
      · have hw : (Lit.int .i64 (k : Int)).wf = true := wf_small (by omega)
        have h2 := H.out.below HB.out
        have c0 := h2.c0
        have c1 := h2.c1
        have hlk := h2.look_ok hw
        have hle := Lf_len f k
        have hsu := Lib.hid (Lf_succ f k)
        clear h2
        cases hfk : (f k).isSome
        · rw [hfk] at hlk hsu
          go_wp2_with (first
            | (at_builtin; refine wpList_append_any _ rfl (.tmp 35) (.tmp 37) _ rfl w.heap.size 3 i0 _ 1 8 Try.underlying38 hi0 hz0' hz1 hz2 rfl (by omega) u7 _ _ rfl ((HO.out.alloc _).alloc _) _ (some ⟨wr.heap.size + 1, 0, none⟩) 1 1 [.int .i64 (k : Int)] rfl (reads_one _ _ _ _) (by simp; rfl) (by unfold maxLen; omega) (by omega) (by have := HB.out.size; simp; omega) ?_; intro v2 w3 hown2 hg2 hat2)
            | go_in)
          refine ⟨⟨k + 1, by go_num, by omega, ?_, ?_⟩, by simp only [intOf]; omega⟩
          · rw [hsu.out]
            simp only [Bool.false_eq_true, if_false, List.length_append, List.map_append, List.length_singleton, List.map_cons, List.map_nil]
            exact hown2
          · exact ((HB.out.alloc HB.out.size _).alloc (by have := HB.out.size; simp; omega) _).grown hg2 (by have := HB.out.size; simp; omega) (fun g hg => (HO.out.lt g hg).1)
        · rw [hfk] at hlk hsu
          go_wp2
          refine ⟨⟨k + 1, by go_num, by omega, ?_, ?_⟩, by simp only [intOf]; omega⟩
          · rw [hsu.out]
            simp only [if_true, List.append_nil]
            exact HO.out.alloc _
          · exact HB.out.alloc HB.out.size _
      · have hkn : (k : Int) = n := by omega
        have hkn' : n.toNat = k := by omega
        go_wp2
        go_ret
        have e := Lf_all (n := n) (p := p) hst0 hz0
        rw [hkn'] at e
        unfold cntF
        rw [← e]
        exact ⟨_, rfl, HO.out, HB.out⟩

end Go.Proofs.Ytibklcjjdnhkdaa
