/- The document's own answer for package rmap: Frames. -/
import Derived.Test.YtdnfjpelhiniaaaRmr
namespace Go.Proofs.Ytdnfjpelhiniaaa
open Go.RowKit Mf

/-- The frames among the first i uses. -/
def FrS (xs : List Us) (i : Nat) (fs : List Int) : Prop := fs.Pairwise (· < ·) ∧ ∀ f, f ∈ fs ↔ ∃ p, (f, p) ∈ xs.take i
theorem FrS.zero (xs : List Us) : FrS xs 0 [] := ⟨List.Pairwise.nil, fun f => by simp⟩
theorem FrS.skip {xs : List Us} {i : Nat} {fs : List Int} {f : Int} {p : Plc} (h : FrS xs i fs) (hx : xs[i]? = some (f, p)) (hf : f ∈ fs) : FrS xs (i + 1) fs := by
  refine ⟨h.1, fun g => ?_⟩
  rw [take_snoc hx, h.2 g]
  constructor
  · rintro ⟨q, hq⟩; exact ⟨q, List.mem_append_left _ hq⟩
  · rintro ⟨q, hq⟩
    rcases List.mem_append.1 hq with hq | hq
    · exact ⟨q, hq⟩
    · rw [List.mem_singleton] at hq
      injection hq with h1 _
      subst h1
      exact (h.2 g).1 hf
structure FPos (fs : List Int) (f : Int) (k : Nat) : Prop where
  le : k ≤ fs.length
  lo : ∀ j o, j < k → fs[j]? = some o → o < f
  hi : ∀ j o, k ≤ j → fs[j]? = some o → f < o
theorem FrS.ins {xs : List Us} {i k : Nat} {fs : List Int} {f : Int} {p : Plc} (h : FrS xs i fs) (hx : xs[i]? = some (f, p)) (hk : FPos fs f k) : FrS xs (i + 1) (fs.take k ++ f :: fs.drop k) := by
  refine ⟨?_, fun g => ?_⟩
  · have hhi : ∀ a ∈ fs.drop k, f < a := fun a ha => by
      obtain ⟨j, hj⟩ := List.mem_iff_getElem?.1 ha
      rw [List.getElem?_drop] at hj
      exact hk.hi _ _ (by omega) hj
    have hlo : ∀ a ∈ fs.take k, a < f := fun a ha => by
      obtain ⟨j, hj⟩ := List.mem_iff_getElem?.1 ha
      rw [List.getElem?_take] at hj
      split at hj
      · exact hk.lo _ _ (by assumption) hj
      · cases hj
    rw [List.pairwise_append, List.pairwise_cons]
    refine ⟨h.1.sublist (List.take_sublist _ _), ⟨hhi, h.1.sublist (List.drop_sublist _ _)⟩, fun a ha b hb => ?_⟩
    rcases List.mem_cons.1 hb with rfl | hb
    · exact hlo a ha
    · have := hlo a ha; have := hhi b hb; omega
  · have e : g ∈ fs ↔ g ∈ fs.take k ∨ g ∈ fs.drop k := by rw [← List.mem_append, List.take_append_drop]
    rw [take_snoc hx, List.mem_append, List.mem_cons]
    have h2 := h.2 g
    rw [e] at h2
    constructor
    · rintro (h1 | h1 | h1)
      · obtain ⟨q, hq⟩ := h2.1 (.inl h1); exact ⟨q, List.mem_append_left _ hq⟩
      · subst h1; exact ⟨p, List.mem_append_right _ (List.mem_singleton.2 rfl)⟩
      · obtain ⟨q, hq⟩ := h2.1 (.inr h1); exact ⟨q, List.mem_append_left _ hq⟩
    · rintro ⟨q, hq⟩
      rcases List.mem_append.1 hq with hq | hq
      · rcases h2.2 ⟨q, hq⟩ with h3 | h3
        · exact .inl h3
        · exact .inr (.inr h3)
      · rw [List.mem_singleton] at hq
        injection hq with h1 _
        exact .inr (.inl h1)
theorem FrS.len {xs : List Us} {i : Nat} {fs : List Int} (h : FrS xs i fs) : fs.length ≤ xs.length := by
  have h1 := sub_len (m := xs.map (·.1)) (h.1.imp fun {a b} hab e => by omega) (fun f hf => by
    obtain ⟨p, hp⟩ := (h.2 f).1 hf
    exact List.mem_map.2 ⟨(f, p), List.mem_of_mem_take hp, rfl⟩)
  simpa using h1
theorem FrS.all {xs : List Us} {u : Int → Plc → Bool} {fs : List Int} {n : Nat} (h : FrS xs n fs) (hn : xs.length = n) (hs : USim xs u) : FramesOf u fs := by
  subst hn
  refine ⟨h.1, fun f => ?_⟩
  rw [h.2 f, List.take_length]
  exact ⟨fun ⟨p, hp⟩ => ⟨p, (hs.2 f p).1 hp⟩, fun ⟨p, hp⟩ => ⟨p, (hs.2 f p).2 hp⟩⟩
def FHi (fs : List Int) (f : Int) (k : Nat) : Prop := ∀ j o, k ≤ j → fs[j]? = some o → f < o
theorem FHi.pos0 {fs : List Int} {f : Int} (h : FHi fs f 0) : FPos fs f 0 := ⟨Nat.zero_le _, fun j o hj _ => by omega, h⟩
theorem FHi.pos {fs : List Int} {f o : Int} {k : Nat} (h : FHi fs f k) (hs : fs.Pairwise (· < ·)) (ho : fs[k - 1]? = some o) (hk : 0 < k) (hl : o < f) : FPos fs f k := by
  have hkl := (List.getElem?_eq_some_iff.1 ho).1
  refine ⟨by omega, fun j q hj hq => ?_, h⟩
  by_cases e : j = k - 1
  · subst e; rw [ho] at hq; injection hq with hq; subst hq; exact hl
  · obtain ⟨k1, e1⟩ := List.getElem?_eq_some_iff.1 hq
    obtain ⟨k2, e2⟩ := List.getElem?_eq_some_iff.1 ho
    have := List.pairwise_iff_getElem.1 hs j (k - 1) k1 k2 (by omega)
    rw [e1, e2] at this
    omega
theorem FHi.step {fs : List Int} {f o : Int} {k : Nat} (h : FHi fs f k) (ho : fs[k - 1]? = some o) (hk : 0 < k) (hl : f < o) : FHi fs f (k - 1) := fun j q hj hq => by
  by_cases e : j = k - 1
  · subst e; rw [ho] at hq; injection hq with hq; subst hq; exact hl
  · exact h j q (by omega) hq

theorem irow_slice {w : World} {B : Nat} {v : Value} {xs : List Int} (h : IRow w B v xs) : ∃ A cc, v = .slice A xs.length cc ∧ xs.length ≤ cc ∧ Reads w w.heap.size 1 A xs.length (xs.map (Value.int .i64)) := by
  rcases h.2 with ⟨rfl, h0⟩ | ⟨g, cap, cur, rfl, _, _, hc, _⟩
  · have e : xs = [] := List.eq_nil_of_length_eq_zero h0
    subst e
    exact ⟨none, 0, rfl, Nat.le_refl _, Reads.none_⟩
  · exact ⟨_, _, rfl, hc, Reads.of_own h⟩
theorem reads_in {w : World} {g : Nat} {t : TypeId} {x : Int} (h : Blk w g t #[.int .i64 x]) : Reads w w.heap.size 1 (some ⟨g, 0, none⟩) 1 [.int .i64 x] := by
  refine ⟨rfl, fun _ => ⟨_, rfl, h.lt, fun j u hj => ?_⟩⟩
  match j, hj with
  | 0, hj => cases hj; exact (h.cell 0).trans rfl
  | j + 1, hj => cases hj
theorem ins_one {xs : List Int} : ∀ u ∈ xs.map (Value.int .i64), u.oneCell' = true := fun u hu => by
  obtain ⟨x, _, rfl⟩ := List.mem_map.1 hu
  rfl

/-- The rounds. -/
def RfR (w : World) (c B : Nat) (v : Value) (xs : List Us) (n : Nat) (vo vi : Value) (wr : World) : Prop := ∃ (i : Nat) (fs : List Int), vi = .int .i64 i ∧ i ≤ n ∧ IRow wr w.heap.size vo fs ∧ FrS xs i fs ∧ RU wr c B v xs ∧ Below w.heap.size w wr
def RfI (wo : World) (fs : List Int) (f : Int) (t : Nat) (vk : Value) (wr : World) : Prop := ∃ k : Nat, vk = .int .i64 k ∧ k ≤ t ∧ FHi fs f k ∧ wr = wo

set_option maxRecDepth 100000 in
set_option maxHeartbeats 8000000 in
theorem ruframes {w : World} {c B : Nat} {v : Value} {xs : List Us} {u : Int → Plc → Bool} (h : RU w c B v xs) (hs : USim xs u) (hn : xs.length ≤ 900) :
    Calls Try.prog 18 #[.pointer (some ⟨c, 0, none⟩)] w fun e w' => ∃ (v : Value) (fs : List Int), e = .returned v ∧ FramesOf u fs ∧ IRow w' w.heap.size v fs ∧ Below w.heap.size w w' := by
  obtain ⟨n, hnn⟩ : ∃ n, xs.length = n := ⟨_, rfl⟩
  obtain ⟨i0, hi0, hz0', hz1, hz2⟩ := info_parts infoI
  have HN := Lib.hid hnn
  rw [hnn] at hn
  obtain ⟨Av, cv, rfl⟩ : ∃ A cc, v = .slice A n cc := by rw [← hnn]; exact h.own.form
  have HH := Lib.hid h
  have HS := Lib.hid hs
  clear h hs hnn
  go_enter Try.func18, Try.ntmps18
  go_wp2_with fail
  go_loopw [3, 4] (RfR w c B (.slice Av n cv) xs n) (fun _ v _ => n - cntI v)
  case atStart => exact ⟨0, [], rfl, Nat.zero_le _, World.ownsRow_nil _ _ _ _, FrS.zero _, HH.out, Below.refl _ _⟩
  case round =>
    obtain ⟨i, fs, rfl, hi, hrw, hpl, hr, hbe⟩ := hrel
    have HRW := Lib.hid hrw
    have HPL := Lib.hid hpl
    have HR := Lib.hid hr
    have HB := Lib.hid hbe
    clear hrw hpl hr hbe
    have c0 := HR.out.c0
    by_cases hin : i < n
    · have g1 : decide ((i : Int) < (n : Int)) = true := by simp; exact hin
      have g1' : decide (i < n) = true := by simp; exact hin
      have hin2 : (i : Int) < (n : Int) := by omega
      obtain ⟨⟨f, p⟩, hx⟩ : ∃ x, xs[i]? = some x := ⟨_, List.getElem?_eq_getElem (by rw [HN.out]; exact hin)⟩
      obtain ⟨g, rfl, d0, _, _⟩ := HR.out.own.cells hx
      have d0 : wr.cell? ⟨g, i * 3, none⟩ = some (.int .i64 f) := d0
      have HX := Lib.hid hx
      have htl := HPL.out.len
      rw [HN.out] at htl
      obtain ⟨A, cc, rfl, hcc, hrd⟩ := irow_slice HRW.out
      obtain ⟨t, ht⟩ : ∃ t, fs.length = t := ⟨_, rfl⟩
      rw [ht] at hcc hrd htl
      have HT := Lib.hid ht
      clear hx
      go_wp2_with fail
      clear ht d0 c0
      have HRD := Lib.hid hrd
      have HCC := Lib.hid hcc
      clear hrd hcc
      obtain ⟨wo, rfl⟩ : ∃ wo : World, wo = wr := ⟨_, rfl⟩
      go_loopw [6] (RfI wo fs f t) (fun v _ => cntI v)
      case atStart => exact ⟨t, rfl, Nat.le_refl _, fun j o hj ho => by have := (List.getElem?_eq_some_iff.1 ho).1; have := HT.out; omega, rfl⟩
      case round =>
        obtain ⟨k, rfl, hkt, hph, rfl⟩ := hrel
        have HPH := Lib.hid hph
        clear hph
        by_cases hk0 : 0 < k
        · have g2 : decide ((k : Int) > 0) = true := by simp; omega
          have g2' : decide (0 < (k : Int)) = true := by simp; omega
          have g2'' : decide (0 < k) = true := by simp; omega
          have g4 : ((k : Int) == 0) = false := by simp; omega
          have g4' : (k == 0) = false := by simp; omega
          obtain ⟨z, hz, hz2⟩ : ∃ z : Nat, (k : Int) - 1 = (z : Int) ∧ z = k - 1 := ⟨k - 1, by omega, rfl⟩
          have hzt : z < t := by omega
          have hzt2 : (z : Int) < (t : Int) := by omega
          have hzw : IntKind.i64.wrap (z : Int) = (z : Int) := IntWalk.i64_in _ (by omega)
          obtain ⟨o, ho⟩ : ∃ o, fs[z]? = some o := ⟨_, List.getElem?_eq_getElem (by rw [HT.out]; exact hzt)⟩
          obtain ⟨g', hA, d3⟩ := IRow.cell HRW.out ho
          have HO := Lib.hid (show fs[k - 1]? = some o by rw [← hz2]; exact ho)
          have HK0 := Lib.hid hk0
          clear ho hz2
          cases hA
          by_cases h1 : f < o
          · have r1 : decide (o > f) = true := by simp; exact h1
            have r1' : decide (f < o) = true := by simp; exact h1
            have HL := Lib.hid h1
            clear h1
            go_wp2
            exact ⟨⟨k - 1, by rw [← hz]; congr 1; omega, by omega, HPH.out.step HO.out HK0.out HL.out, rfl⟩, by simp [cntI]; omega⟩
          · have r1 : decide (o > f) = false := by simp; omega
            have r1' : decide (f < o) = false := by simp; omega
            by_cases h2 : o = f
            · have r2 : (o != f) = false := by simp; exact h2
              have HSK := Lib.hid (HPL.out.skip HX.out (by rw [← h2]; exact List.mem_of_getElem? HO.out))
              clear h1 h2
              go_wp2
              exact ⟨⟨i + 1, fs, by go_num, by omega, by have h := HRW.out; rw [HT.out] at h; exact h, HSK.out, HR.out, HB.out⟩, by simp [cntI]; omega⟩
            · have r2 : (o != f) = true := by simp; exact h2
              have HPP := Lib.hid (HPH.out.pos HPL.out.1 HO.out HK0.out (by omega))
              clear h1 h2
              obtain ⟨A2, hA2⟩ : ∃ A2, (if cc = k then ((some ⟨g', 0, none⟩) : Option Addr) else Option.map (fun a : Addr => a.add (k * 1)) (some ⟨g', 0, none⟩)) = A2 := ⟨_, rfl⟩
              have hs1 : ∀ w' : World, (Instr.slice 39 (.slice (some ⟨g', 0, none⟩) t cc) none (some (.int .i64 (k : Int))) none).run Try.prog w' = .ok (.slice (some ⟨g', 0, none⟩) k cc) w' := fun w' => run_cut_lo w' Try.underlying39 hi0 (some ⟨g', 0, none⟩) t cc k (by have := HCC.out; omega)
              have hs2 : ∀ w' : World, (Instr.slice 39 (.slice (some ⟨g', 0, none⟩) t cc) (some (.int .i64 (k : Int))) none none).run Try.prog w' = .ok (.slice A2 (t - k) (cc - k)) w' := fun w' => by rw [← hA2]; exact run_cut_hi w' Try.underlying39 hi0 1 hz1 (some ⟨g', 0, none⟩) t cc k hkt
              have HRD1 := Lib.hid (show Reads wr.drew wr.drew.heap.size 1 (some ⟨g', 0, none⟩) k ((fs.take k).map (Value.int .i64)) from by
                have h9 := (show Reads wr.drew wr.drew.heap.size 1 (some ⟨g', 0, none⟩) t (fs.map (Value.int .i64)) from HRD.out).takeS hkt
                rw [Nat.mul_one, ← List.map_take] at h9
                exact h9)
              have HRD2 := Lib.hid (show Reads wr.drew wr.drew.heap.size 1 A2 (t - k) ((fs.drop k).map (Value.int .i64)) from by
                have h9 := Reads.cut (show Reads wr wr.heap.size 1 (some ⟨g', 0, none⟩) t (fs.map (Value.int .i64)) from HRD.out) hkt HCC.out
                rw [hA2, Nat.mul_one, ← List.map_drop] at h9
                exact h9)
              have HB2 := Lib.hid (show Below w.heap.size w wr.drew from HB.out.drew)
              have HR2 := Lib.hid (show RU wr.drew c B _ xs from HR.out.drewN 1)
              clear hA2 HRD HR HB HRW
              go_upto_region 10 with fail
              refine wp_region_held_drew (S := (fun _ => True)) (by kernel_rfl) ?_ (fun hHeld => ?_)
              · trivial
              generalize wr.drew = w0 at *
              obtain ⟨wc, hwc, HBL, hHeld⟩ : ∃ wc, w0 = wc ∧ Hid (Below w0.heap.size w0 wc) ∧ True := ⟨w0, rfl, Lib.hid (Below.refl _ _), hHeld⟩
              rw [hwc]
              clear hwc
              ((refine takeY 1 (v := ?_) rfl (by kernel_rfl) (by kernel_rfl) (by kernel_rfl) (fun _ _ _ h => h) (by rfl) (by assumption) ?_ ?_; rotate_left; · (intro w hSw; (try dsimp only at hSw); go_simp; (first | done | with_reducible rfl))))
              (try simp only [Act.put, List.setIfInBounds_toArray, List.set_cons_zero, List.set_cons_succ])
              ((refine takeY 2 (v := ?_) rfl (by kernel_rfl) (by kernel_rfl) (by kernel_rfl) (fun _ _ _ h => h) (by rfl) (by assumption) ?_ ?_; rotate_left; · (intro w hSw; (try dsimp only at hSw); go_simp; (first | done | with_reducible rfl))))
              (try simp only [Act.put, List.setIfInBounds_toArray, List.set_cons_zero, List.set_cons_succ])
              ((refine takeY 3 (v := ?_) rfl (by kernel_rfl) (by kernel_rfl) (by kernel_rfl) (fun _ _ _ h => h) (by rfl) (by assumption) ?_ ?_; rotate_left; · (intro w hSw; (try dsimp only at hSw); go_simp; (first | done | with_reducible rfl))))
              (try simp only [Act.put, List.setIfInBounds_toArray, List.set_cons_zero, List.set_cons_succ])
              ((refine takeY 5 (v := ?_) rfl (by kernel_rfl) (by kernel_rfl) (by kernel_rfl) (fun _ _ _ h => h) (by rfl) (by assumption) ?_ ?_; rotate_left; · (intro w hSw; (try dsimp only at hSw); go_simp; (first | done | with_reducible rfl))))
              (try simp only [Act.put, List.setIfInBounds_toArray, List.set_cons_zero, List.set_cons_succ])
              ((refine takeY 8 (v := ?_) rfl (by kernel_rfl) (by kernel_rfl) (by kernel_rfl) (fun _ _ _ h => h) (by rfl) (by assumption) ?_ ?_; rotate_left; · (intro w hSw; (try dsimp only at hSw); go_simp; (first | done | with_reducible rfl))))
              (try simp only [Act.put, List.setIfInBounds_toArray, List.set_cons_zero, List.set_cons_succ])
              ((refine takeY 9 (v := ?_) rfl (by kernel_rfl) (by kernel_rfl) (by kernel_rfl) (fun _ _ _ h => h) (by rfl) (by assumption) ?_ ?_; rotate_left; · (intro w hSw; (try dsimp only at hSw); go_simp; (first | done | with_reducible rfl))))
              (try simp only [Act.put, List.setIfInBounds_toArray, List.set_cons_zero, List.set_cons_succ])
              ((refine takeY 10 (v := ?_) rfl (by kernel_rfl) (by kernel_rfl) (by kernel_rfl) (fun _ _ _ h => h) (by rfl) (by assumption) ?_ ?_; rotate_left; · (intro w hSw; (try dsimp only at hSw); go_simp; (first | done | with_reducible rfl))))
              (try simp only [Act.put, List.setIfInBounds_toArray, List.set_cons_zero, List.set_cons_succ])
              refine wpAnyH_ready (rs := [0, 6]) (by kernel_rfl) (by simp) ?_
              refine consH 0 rfl (by rfl) (fun K hK => ?_) (consH 6 rfl (by rfl) (fun K hK => ?_) (AllReadyH.nil))
              · go_simp
                (refine hK.out _ _ ?_ (fun hHeld => ?_))
                · trivial
                clear hK K
                have HA := Lib.hid (show (wc.alloc (.cells #[] 3)).ownsRow w0.heap.size 3 1 (.slice (some ⟨wc.heap.size, 0, none⟩) 0 0) 0 [] from World.ownsRow_lit wc #[] 0 HBL.out.size (by unfold maxLen; omega) rfl)
                replace HBL := Lib.hid (HBL.out.alloc HBL.out.size (.cells #[] 3))
                generalize hwn : wc.alloc (.cells #[] 3) = wn at *
                clear hwn
                generalize hga : wc.heap.size = ga at *
                clear hga
                obtain ⟨wc, rfl⟩ : ∃ x : World, x = wn := ⟨_, rfl⟩
                refine wpAnyH_ready (rs := [4, 6]) (by kernel_rfl) (by simp) ?_
                refine consH 4 rfl (by rfl) (fun K hK => ?_) (consH 6 rfl (by rfl) (fun K hK => ?_) (AllReadyH.nil))
                · (refine wp_append_any _ (.tmp 50) (.tmp 53) _ rfl w0.heap.size 3 i0 _ 1 8 Try.underlying39 hi0 hz0' hz1 hz2 rfl (by omega) _ 0 _ rfl HA.out _ (some ⟨g', 0, none⟩) k _ ((fs.take k).map (Value.int .i64)) rfl (HRD1.out.below HBL.out) ins_one (by unfold maxLen; omega) (by omega) HBL.out.size ?_; intro v2 w3 hown2 hg2 hat2)
                  (refine hK.out _ _ ?_ (fun hHeld => ?_))
                  · trivial
                  clear hK K
                  replace HBL := Lib.hid (HBL.out.grown hg2 HBL.out.size (fun g hg => (HA.out.lt g hg).1))
                  replace HA := Lib.hid hown2
                  clear hown2 hg2 hat2
                  obtain ⟨va, rfl⟩ : ∃ x : Value, x = v2 := ⟨_, rfl⟩
                  obtain ⟨wc, rfl⟩ : ∃ x : World, x = w3 := ⟨_, rfl⟩
                  refine stepH 6 rfl (by kernel_rfl) (by rfl) (fun K hK => ?_)
                  go_simp
                  (refine hK.out _ _ ?_ (fun hHeld => ?_))
                  · trivial
                  clear hK K
                  have HC := Lib.hid (Blk.new wc 3 #[.int .i64 f])
                  have HNE := Lib.hid (show some wc.heap.size ≠ va.ownBlock from fun e => by have := (HA.out.lt _ e.symm).2; omega)
                  replace HA := Lib.hid (HA.out.alloc (.cells #[.int .i64 f] 3))
                  replace HBL := Lib.hid (HBL.out.alloc HBL.out.size (.cells #[.int .i64 f] 3))
                  generalize hwn : wc.alloc (.cells #[.int .i64 f] 3) = wn at *
                  clear hwn
                  generalize hgc : wc.heap.size = gc at *
                  clear hgc
                  obtain ⟨wc, rfl⟩ : ∃ x : World, x = wn := ⟨_, rfl⟩
                  refine stepH 7 rfl (by kernel_rfl) (by rfl) (fun K hK => ?_)
                  (refine wp_append_any _ (.tmp 54) (.tmp 56) _ rfl w0.heap.size 3 i0 _ 1 8 Try.underlying39 hi0 hz0' hz1 hz2 rfl (by omega) _ (0 + k) _ rfl HA.out _ (some ⟨gc, 0, none⟩) 1 _ [.int .i64 f] rfl (reads_in HC.out) (by simp; rfl) (by unfold maxLen; omega) (by omega) HBL.out.size ?_; intro v2 w3 hown2 hg2 hat2)
                  (refine hK.out _ _ ?_ (fun hHeld => ?_))
                  · trivial
                  clear hK K
                  have HC2 := Lib.hid (HC.out.grown hg2 HNE.out)
                  replace HNE := Lib.hid (show some gc ≠ v2.ownBlock from by
                    rcases hat2 with e | e
                    · rw [e]; exact HNE.out
                    · rw [e]; exact fun e => absurd (Option.some.inj e) (by have := HC.out.lt; omega))
                  replace HC := HC2
                  clear HC2
                  replace HBL := Lib.hid (HBL.out.grown hg2 HBL.out.size (fun g hg => (HA.out.lt g hg).1))
                  replace HA := Lib.hid hown2
                  clear hown2 hg2 hat2
                  obtain ⟨va, rfl⟩ : ∃ x : Value, x = v2 := ⟨_, rfl⟩
                  obtain ⟨wc, rfl⟩ : ∃ x : World, x = w3 := ⟨_, rfl⟩
                  refine stepH 11 rfl (by kernel_rfl) (by rfl) (fun K hK => ?_)
                  (refine wp_append_any _ (.tmp 57) (.tmp 60) _ rfl w0.heap.size 3 i0 _ 1 8 Try.underlying39 hi0 hz0' hz1 hz2 rfl (by omega) _ (0 + k + 1) _ rfl HA.out _ A2 (t - k) _ ((fs.drop k).map (Value.int .i64)) rfl (HRD2.out.below HBL.out) ins_one (by unfold maxLen; omega) (by omega) HBL.out.size ?_; intro v2 w3 hown2 hg2 hat2)
                  (refine hK.out _ _ ?_ (fun hHeld => ?_))
                  · trivial
                  clear hK K
                  have HC2 := Lib.hid (HC.out.grown hg2 HNE.out)
                  replace HNE := Lib.hid (show some gc ≠ v2.ownBlock from by
                    rcases hat2 with e | e
                    · rw [e]; exact HNE.out
                    · rw [e]; exact fun e => absurd (Option.some.inj e) (by have := HC.out.lt; omega))
                  replace HC := HC2
                  clear HC2
                  replace HBL := Lib.hid (HBL.out.grown hg2 HBL.out.size (fun g hg => (HA.out.lt g hg).1))
                  replace HA := Lib.hid hown2
                  clear hown2 hg2 hat2
                  obtain ⟨va, rfl⟩ : ∃ x : Value, x = v2 := ⟨_, rfl⟩
                  obtain ⟨wc, rfl⟩ : ∃ x : World, x = w3 := ⟨_, rfl⟩
                  ((refine takeY 12 (v := ?_) rfl (by kernel_rfl) (by kernel_rfl) (by kernel_rfl) (fun _ _ _ h => h) (by rfl) (by assumption) ?_ ?_; rotate_left; · (intro w hSw; (try dsimp only at hSw); go_simp; (first | done | with_reducible rfl))))
                  (try simp only [Act.put, List.setIfInBounds_toArray, List.set_cons_zero, List.set_cons_succ])
                  refine wpAnyH_done (by kernel_rfl) ?_ _
                  clear hHeld hs1 hs2 HC HNE
                  go_wp2
                  refine ⟨⟨i + 1, fs.take k ++ f :: fs.drop k, by go_num, by omega, ?_, HPL.out.ins HX.out HPP.out, HR2.out.below HBL.out, HB2.out.trans (HBL.out.mono HB2.out.size)⟩, by simp [cntI]; omega⟩
                  have hA9 := HA.out
                  rw [List.nil_append] at hA9
                  show World.ownsRow _ _ _ _ _ _ _
                  rw [show (fs.take k ++ f :: fs.drop k).length = 0 + k + 1 + (t - k) from by rw [List.length_append, List.length_cons, List.length_take, List.length_drop]; have := HT.out; omega, List.map_append, List.map_cons]
                  rw [List.append_assoc] at hA9
                  exact ownsRow_mono hA9 HB2.out.size
                · go_simp
                  (refine hK.out _ _ ?_ (fun hHeld => ?_))
                  · trivial
                  clear hK K
                  have HC := Lib.hid (Blk.new wc 3 #[.int .i64 f])
                  have HNE := Lib.hid (show some wc.heap.size ≠ (Value.slice (some ⟨ga, 0, none⟩) 0 0).ownBlock from fun e => absurd ((HA.out.lt _ e.symm).2) (by omega))
                  replace HA := Lib.hid (HA.out.alloc (.cells #[.int .i64 f] 3))
                  replace HBL := Lib.hid (HBL.out.alloc HBL.out.size (.cells #[.int .i64 f] 3))
                  generalize hwn : wc.alloc (.cells #[.int .i64 f] 3) = wn at *
                  clear hwn
                  generalize hgc : wc.heap.size = gc at *
                  clear hgc
                  obtain ⟨wc, rfl⟩ : ∃ x : World, x = wn := ⟨_, rfl⟩
                  refine stepH 4 rfl (by kernel_rfl) (by rfl) (fun K hK => ?_)
                  (refine wp_append_any _ (.tmp 50) (.tmp 53) _ rfl w0.heap.size 3 i0 _ 1 8 Try.underlying39 hi0 hz0' hz1 hz2 rfl (by omega) _ 0 _ rfl HA.out _ (some ⟨g', 0, none⟩) k _ ((fs.take k).map (Value.int .i64)) rfl (HRD1.out.below HBL.out) ins_one (by unfold maxLen; omega) (by omega) HBL.out.size ?_; intro v2 w3 hown2 hg2 hat2)
                  (refine hK.out _ _ ?_ (fun hHeld => ?_))
                  · trivial
                  clear hK K
                  have HC2 := Lib.hid (HC.out.grown hg2 HNE.out)
                  replace HNE := Lib.hid (show some gc ≠ v2.ownBlock from by
                    rcases hat2 with e | e
                    · rw [e]; exact HNE.out
                    · rw [e]; exact fun e => absurd (Option.some.inj e) (by have := HC.out.lt; omega))
                  replace HC := HC2
                  clear HC2
                  replace HBL := Lib.hid (HBL.out.grown hg2 HBL.out.size (fun g hg => (HA.out.lt g hg).1))
                  replace HA := Lib.hid hown2
                  clear hown2 hg2 hat2
                  obtain ⟨va, rfl⟩ : ∃ x : Value, x = v2 := ⟨_, rfl⟩
                  obtain ⟨wc, rfl⟩ : ∃ x : World, x = w3 := ⟨_, rfl⟩
                  refine stepH 7 rfl (by kernel_rfl) (by rfl) (fun K hK => ?_)
                  (refine wp_append_any _ (.tmp 54) (.tmp 56) _ rfl w0.heap.size 3 i0 _ 1 8 Try.underlying39 hi0 hz0' hz1 hz2 rfl (by omega) _ (0 + k) _ rfl HA.out _ (some ⟨gc, 0, none⟩) 1 _ [.int .i64 f] rfl (reads_in HC.out) (by simp; rfl) (by unfold maxLen; omega) (by omega) HBL.out.size ?_; intro v2 w3 hown2 hg2 hat2)
                  (refine hK.out _ _ ?_ (fun hHeld => ?_))
                  · trivial
                  clear hK K
                  have HC2 := Lib.hid (HC.out.grown hg2 HNE.out)
                  replace HNE := Lib.hid (show some gc ≠ v2.ownBlock from by
                    rcases hat2 with e | e
                    · rw [e]; exact HNE.out
                    · rw [e]; exact fun e => absurd (Option.some.inj e) (by have := HC.out.lt; omega))
                  replace HC := HC2
                  clear HC2
                  replace HBL := Lib.hid (HBL.out.grown hg2 HBL.out.size (fun g hg => (HA.out.lt g hg).1))
                  replace HA := Lib.hid hown2
                  clear hown2 hg2 hat2
                  obtain ⟨va, rfl⟩ : ∃ x : Value, x = v2 := ⟨_, rfl⟩
                  obtain ⟨wc, rfl⟩ : ∃ x : World, x = w3 := ⟨_, rfl⟩
                  refine stepH 11 rfl (by kernel_rfl) (by rfl) (fun K hK => ?_)
                  (refine wp_append_any _ (.tmp 57) (.tmp 60) _ rfl w0.heap.size 3 i0 _ 1 8 Try.underlying39 hi0 hz0' hz1 hz2 rfl (by omega) _ (0 + k + 1) _ rfl HA.out _ A2 (t - k) _ ((fs.drop k).map (Value.int .i64)) rfl (HRD2.out.below HBL.out) ins_one (by unfold maxLen; omega) (by omega) HBL.out.size ?_; intro v2 w3 hown2 hg2 hat2)
                  (refine hK.out _ _ ?_ (fun hHeld => ?_))
                  · trivial
                  clear hK K
                  have HC2 := Lib.hid (HC.out.grown hg2 HNE.out)
                  replace HNE := Lib.hid (show some gc ≠ v2.ownBlock from by
                    rcases hat2 with e | e
                    · rw [e]; exact HNE.out
                    · rw [e]; exact fun e => absurd (Option.some.inj e) (by have := HC.out.lt; omega))
                  replace HC := HC2
                  clear HC2
                  replace HBL := Lib.hid (HBL.out.grown hg2 HBL.out.size (fun g hg => (HA.out.lt g hg).1))
                  replace HA := Lib.hid hown2
                  clear hown2 hg2 hat2
                  obtain ⟨va, rfl⟩ : ∃ x : Value, x = v2 := ⟨_, rfl⟩
                  obtain ⟨wc, rfl⟩ : ∃ x : World, x = w3 := ⟨_, rfl⟩
                  ((refine takeY 12 (v := ?_) rfl (by kernel_rfl) (by kernel_rfl) (by kernel_rfl) (fun _ _ _ h => h) (by rfl) (by assumption) ?_ ?_; rotate_left; · (intro w hSw; (try dsimp only at hSw); go_simp; (first | done | with_reducible rfl))))
                  (try simp only [Act.put, List.setIfInBounds_toArray, List.set_cons_zero, List.set_cons_succ])
                  refine wpAnyH_done (by kernel_rfl) ?_ _
                  clear hHeld hs1 hs2 HC HNE
                  go_wp2
                  refine ⟨⟨i + 1, fs.take k ++ f :: fs.drop k, by go_num, by omega, ?_, HPL.out.ins HX.out HPP.out, HR2.out.below HBL.out, HB2.out.trans (HBL.out.mono HB2.out.size)⟩, by simp [cntI]; omega⟩
                  have hA9 := HA.out
                  rw [List.nil_append] at hA9
                  show World.ownsRow _ _ _ _ _ _ _
                  rw [show (fs.take k ++ f :: fs.drop k).length = 0 + k + 1 + (t - k) from by rw [List.length_append, List.length_cons, List.length_take, List.length_drop]; have := HT.out; omega, List.map_append, List.map_cons]
                  rw [List.append_assoc] at hA9
                  exact ownsRow_mono hA9 HB2.out.size
              · go_simp
                (refine hK.out _ _ ?_ (fun hHeld => ?_))
                · trivial
                clear hK K
                have HC := Lib.hid (Blk.new wc 3 #[.int .i64 f])
                replace HBL := Lib.hid (HBL.out.alloc HBL.out.size (.cells #[.int .i64 f] 3))
                generalize hwn : wc.alloc (.cells #[.int .i64 f] 3) = wn at *
                clear hwn
                generalize hgc : wc.heap.size = gc at *
                clear hgc
                obtain ⟨wc, rfl⟩ : ∃ x : World, x = wn := ⟨_, rfl⟩
                refine stepH 0 rfl (by kernel_rfl) (by rfl) (fun K hK => ?_)
                go_simp
                (refine hK.out _ _ ?_ (fun hHeld => ?_))
                · trivial
                clear hK K
                have HA := Lib.hid (show (wc.alloc (.cells #[] 3)).ownsRow w0.heap.size 3 1 (.slice (some ⟨wc.heap.size, 0, none⟩) 0 0) 0 [] from World.ownsRow_lit wc #[] 0 HBL.out.size (by unfold maxLen; omega) rfl)
                have HNE := Lib.hid (show some gc ≠ (Value.slice (some ⟨wc.heap.size, 0, none⟩) 0 0).ownBlock from fun e => absurd (Option.some.inj e) (by have := HC.out.lt; show ¬ gc = wc.heap.size; omega))
                replace HC := Lib.hid (HC.out.alloc (.cells #[] 3))
                replace HBL := Lib.hid (HBL.out.alloc HBL.out.size (.cells #[] 3))
                generalize hwn : wc.alloc (.cells #[] 3) = wn at *
                clear hwn
                generalize hga : wc.heap.size = ga at *
                clear hga
                obtain ⟨wc, rfl⟩ : ∃ x : World, x = wn := ⟨_, rfl⟩
                refine stepH 4 rfl (by kernel_rfl) (by rfl) (fun K hK => ?_)
                (refine wp_append_any _ (.tmp 50) (.tmp 53) _ rfl w0.heap.size 3 i0 _ 1 8 Try.underlying39 hi0 hz0' hz1 hz2 rfl (by omega) _ 0 _ rfl HA.out _ (some ⟨g', 0, none⟩) k _ ((fs.take k).map (Value.int .i64)) rfl (HRD1.out.below HBL.out) ins_one (by unfold maxLen; omega) (by omega) HBL.out.size ?_; intro v2 w3 hown2 hg2 hat2)
                (refine hK.out _ _ ?_ (fun hHeld => ?_))
                · trivial
                clear hK K
                have HC2 := Lib.hid (HC.out.grown hg2 HNE.out)
                replace HNE := Lib.hid (show some gc ≠ v2.ownBlock from by
                  rcases hat2 with e | e
                  · rw [e]; exact HNE.out
                  · rw [e]; exact fun e => absurd (Option.some.inj e) (by have := HC.out.lt; omega))
                replace HC := HC2
                clear HC2
                replace HBL := Lib.hid (HBL.out.grown hg2 HBL.out.size (fun g hg => (HA.out.lt g hg).1))
                replace HA := Lib.hid hown2
                clear hown2 hg2 hat2
                obtain ⟨va, rfl⟩ : ∃ x : Value, x = v2 := ⟨_, rfl⟩
                obtain ⟨wc, rfl⟩ : ∃ x : World, x = w3 := ⟨_, rfl⟩
                refine stepH 7 rfl (by kernel_rfl) (by rfl) (fun K hK => ?_)
                (refine wp_append_any _ (.tmp 54) (.tmp 56) _ rfl w0.heap.size 3 i0 _ 1 8 Try.underlying39 hi0 hz0' hz1 hz2 rfl (by omega) _ (0 + k) _ rfl HA.out _ (some ⟨gc, 0, none⟩) 1 _ [.int .i64 f] rfl (reads_in HC.out) (by simp; rfl) (by unfold maxLen; omega) (by omega) HBL.out.size ?_; intro v2 w3 hown2 hg2 hat2)
                (refine hK.out _ _ ?_ (fun hHeld => ?_))
                · trivial
                clear hK K
                have HC2 := Lib.hid (HC.out.grown hg2 HNE.out)
                replace HNE := Lib.hid (show some gc ≠ v2.ownBlock from by
                  rcases hat2 with e | e
                  · rw [e]; exact HNE.out
                  · rw [e]; exact fun e => absurd (Option.some.inj e) (by have := HC.out.lt; omega))
                replace HC := HC2
                clear HC2
                replace HBL := Lib.hid (HBL.out.grown hg2 HBL.out.size (fun g hg => (HA.out.lt g hg).1))
                replace HA := Lib.hid hown2
                clear hown2 hg2 hat2
                obtain ⟨va, rfl⟩ : ∃ x : Value, x = v2 := ⟨_, rfl⟩
                obtain ⟨wc, rfl⟩ : ∃ x : World, x = w3 := ⟨_, rfl⟩
                refine stepH 11 rfl (by kernel_rfl) (by rfl) (fun K hK => ?_)
                (refine wp_append_any _ (.tmp 57) (.tmp 60) _ rfl w0.heap.size 3 i0 _ 1 8 Try.underlying39 hi0 hz0' hz1 hz2 rfl (by omega) _ (0 + k + 1) _ rfl HA.out _ A2 (t - k) _ ((fs.drop k).map (Value.int .i64)) rfl (HRD2.out.below HBL.out) ins_one (by unfold maxLen; omega) (by omega) HBL.out.size ?_; intro v2 w3 hown2 hg2 hat2)
                (refine hK.out _ _ ?_ (fun hHeld => ?_))
                · trivial
                clear hK K
                have HC2 := Lib.hid (HC.out.grown hg2 HNE.out)
                replace HNE := Lib.hid (show some gc ≠ v2.ownBlock from by
                  rcases hat2 with e | e
                  · rw [e]; exact HNE.out
                  · rw [e]; exact fun e => absurd (Option.some.inj e) (by have := HC.out.lt; omega))
                replace HC := HC2
                clear HC2
                replace HBL := Lib.hid (HBL.out.grown hg2 HBL.out.size (fun g hg => (HA.out.lt g hg).1))
                replace HA := Lib.hid hown2
                clear hown2 hg2 hat2
                obtain ⟨va, rfl⟩ : ∃ x : Value, x = v2 := ⟨_, rfl⟩
                obtain ⟨wc, rfl⟩ : ∃ x : World, x = w3 := ⟨_, rfl⟩
                ((refine takeY 12 (v := ?_) rfl (by kernel_rfl) (by kernel_rfl) (by kernel_rfl) (fun _ _ _ h => h) (by rfl) (by assumption) ?_ ?_; rotate_left; · (intro w hSw; (try dsimp only at hSw); go_simp; (first | done | with_reducible rfl))))
                (try simp only [Act.put, List.setIfInBounds_toArray, List.set_cons_zero, List.set_cons_succ])
                refine wpAnyH_done (by kernel_rfl) ?_ _
                clear hHeld hs1 hs2 HC HNE
                go_wp2
                refine ⟨⟨i + 1, fs.take k ++ f :: fs.drop k, by go_num, by omega, ?_, HPL.out.ins HX.out HPP.out, HR2.out.below HBL.out, HB2.out.trans (HBL.out.mono HB2.out.size)⟩, by simp [cntI]; omega⟩
                have hA9 := HA.out
                rw [List.nil_append] at hA9
                show World.ownsRow _ _ _ _ _ _ _
                rw [show (fs.take k ++ f :: fs.drop k).length = 0 + k + 1 + (t - k) from by rw [List.length_append, List.length_cons, List.length_take, List.length_drop]; have := HT.out; omega, List.map_append, List.map_cons]
                rw [List.append_assoc] at hA9
                exact ownsRow_mono hA9 HB2.out.size
        · have g2 : decide ((k : Int) > 0) = false := by simp; omega
          have g2' : decide (0 < (k : Int)) = false := by simp; omega
          have g4 : ((k : Int) == 0) = true := by simp; omega
          have g4' : (k == 0) = true := by simp; omega
          have HPP := Lib.hid (show FPos fs f k from by
            have e : k = 0 := by omega
            subst e
            exact HPH.out.pos0)
          obtain ⟨A2, hA2⟩ : ∃ A2, (if cc = k then (A : Option Addr) else Option.map (fun a : Addr => a.add (k * 1)) A) = A2 := ⟨_, rfl⟩
          have hs1 : ∀ w' : World, (Instr.slice 39 (.slice A t cc) none (some (.int .i64 (k : Int))) none).run Try.prog w' = .ok (.slice A k cc) w' := fun w' => run_cut_lo w' Try.underlying39 hi0 A t cc k (by have := HCC.out; omega)
          have hs2 : ∀ w' : World, (Instr.slice 39 (.slice A t cc) (some (.int .i64 (k : Int))) none none).run Try.prog w' = .ok (.slice A2 (t - k) (cc - k)) w' := fun w' => by rw [← hA2]; exact run_cut_hi w' Try.underlying39 hi0 1 hz1 A t cc k hkt
          have HRD1 := Lib.hid (show Reads wr.drew wr.drew.heap.size 1 A k ((fs.take k).map (Value.int .i64)) from by
            have h9 := (show Reads wr.drew wr.drew.heap.size 1 A t (fs.map (Value.int .i64)) from HRD.out).takeS hkt
            rw [Nat.mul_one, ← List.map_take] at h9
            exact h9)
          have HRD2 := Lib.hid (show Reads wr.drew wr.drew.heap.size 1 A2 (t - k) ((fs.drop k).map (Value.int .i64)) from by
            have h9 := Reads.cut (show Reads wr wr.heap.size 1 A t (fs.map (Value.int .i64)) from HRD.out) hkt HCC.out
            rw [hA2, Nat.mul_one, ← List.map_drop] at h9
            exact h9)
          have HB2 := Lib.hid (show Below w.heap.size w wr.drew from HB.out.drew)
          have HR2 := Lib.hid (show RU wr.drew c B _ xs from HR.out.drewN 1)
          clear hA2 HRD HR HB HRW
          go_upto_region 10 with fail
          refine wp_region_held_drew (S := (fun _ => True)) (by kernel_rfl) ?_ (fun hHeld => ?_)
          · trivial
          generalize wr.drew = w0 at *
          obtain ⟨wc, hwc, HBL, hHeld⟩ : ∃ wc, w0 = wc ∧ Hid (Below w0.heap.size w0 wc) ∧ True := ⟨w0, rfl, Lib.hid (Below.refl _ _), hHeld⟩
          rw [hwc]
          clear hwc
          ((refine takeY 1 (v := ?_) rfl (by kernel_rfl) (by kernel_rfl) (by kernel_rfl) (fun _ _ _ h => h) (by rfl) (by assumption) ?_ ?_; rotate_left; · (intro w hSw; (try dsimp only at hSw); go_simp; (first | done | with_reducible rfl))))
          (try simp only [Act.put, List.setIfInBounds_toArray, List.set_cons_zero, List.set_cons_succ])
          ((refine takeY 2 (v := ?_) rfl (by kernel_rfl) (by kernel_rfl) (by kernel_rfl) (fun _ _ _ h => h) (by rfl) (by assumption) ?_ ?_; rotate_left; · (intro w hSw; (try dsimp only at hSw); go_simp; (first | done | with_reducible rfl))))
          (try simp only [Act.put, List.setIfInBounds_toArray, List.set_cons_zero, List.set_cons_succ])
          ((refine takeY 3 (v := ?_) rfl (by kernel_rfl) (by kernel_rfl) (by kernel_rfl) (fun _ _ _ h => h) (by rfl) (by assumption) ?_ ?_; rotate_left; · (intro w hSw; (try dsimp only at hSw); go_simp; (first | done | with_reducible rfl))))
          (try simp only [Act.put, List.setIfInBounds_toArray, List.set_cons_zero, List.set_cons_succ])
          ((refine takeY 5 (v := ?_) rfl (by kernel_rfl) (by kernel_rfl) (by kernel_rfl) (fun _ _ _ h => h) (by rfl) (by assumption) ?_ ?_; rotate_left; · (intro w hSw; (try dsimp only at hSw); go_simp; (first | done | with_reducible rfl))))
          (try simp only [Act.put, List.setIfInBounds_toArray, List.set_cons_zero, List.set_cons_succ])
          ((refine takeY 8 (v := ?_) rfl (by kernel_rfl) (by kernel_rfl) (by kernel_rfl) (fun _ _ _ h => h) (by rfl) (by assumption) ?_ ?_; rotate_left; · (intro w hSw; (try dsimp only at hSw); go_simp; (first | done | with_reducible rfl))))
          (try simp only [Act.put, List.setIfInBounds_toArray, List.set_cons_zero, List.set_cons_succ])
          ((refine takeY 9 (v := ?_) rfl (by kernel_rfl) (by kernel_rfl) (by kernel_rfl) (fun _ _ _ h => h) (by rfl) (by assumption) ?_ ?_; rotate_left; · (intro w hSw; (try dsimp only at hSw); go_simp; (first | done | with_reducible rfl))))
          (try simp only [Act.put, List.setIfInBounds_toArray, List.set_cons_zero, List.set_cons_succ])
          ((refine takeY 10 (v := ?_) rfl (by kernel_rfl) (by kernel_rfl) (by kernel_rfl) (fun _ _ _ h => h) (by rfl) (by assumption) ?_ ?_; rotate_left; · (intro w hSw; (try dsimp only at hSw); go_simp; (first | done | with_reducible rfl))))
          (try simp only [Act.put, List.setIfInBounds_toArray, List.set_cons_zero, List.set_cons_succ])
          refine wpAnyH_ready (rs := [0, 6]) (by kernel_rfl) (by simp) ?_
          refine consH 0 rfl (by rfl) (fun K hK => ?_) (consH 6 rfl (by rfl) (fun K hK => ?_) (AllReadyH.nil))
          · go_simp
            (refine hK.out _ _ ?_ (fun hHeld => ?_))
            · trivial
            clear hK K
            have HA := Lib.hid (show (wc.alloc (.cells #[] 3)).ownsRow w0.heap.size 3 1 (.slice (some ⟨wc.heap.size, 0, none⟩) 0 0) 0 [] from World.ownsRow_lit wc #[] 0 HBL.out.size (by unfold maxLen; omega) rfl)
            replace HBL := Lib.hid (HBL.out.alloc HBL.out.size (.cells #[] 3))
            generalize hwn : wc.alloc (.cells #[] 3) = wn at *
            clear hwn
            generalize hga : wc.heap.size = ga at *
            clear hga
            obtain ⟨wc, rfl⟩ : ∃ x : World, x = wn := ⟨_, rfl⟩
            refine wpAnyH_ready (rs := [4, 6]) (by kernel_rfl) (by simp) ?_
            refine consH 4 rfl (by rfl) (fun K hK => ?_) (consH 6 rfl (by rfl) (fun K hK => ?_) (AllReadyH.nil))
            · (refine wp_append_any _ (.tmp 50) (.tmp 53) _ rfl w0.heap.size 3 i0 _ 1 8 Try.underlying39 hi0 hz0' hz1 hz2 rfl (by omega) _ 0 _ rfl HA.out _ A k _ ((fs.take k).map (Value.int .i64)) rfl (HRD1.out.below HBL.out) ins_one (by unfold maxLen; omega) (by omega) HBL.out.size ?_; intro v2 w3 hown2 hg2 hat2)
              (refine hK.out _ _ ?_ (fun hHeld => ?_))
              · trivial
              clear hK K
              replace HBL := Lib.hid (HBL.out.grown hg2 HBL.out.size (fun g hg => (HA.out.lt g hg).1))
              replace HA := Lib.hid hown2
              clear hown2 hg2 hat2
              obtain ⟨va, rfl⟩ : ∃ x : Value, x = v2 := ⟨_, rfl⟩
              obtain ⟨wc, rfl⟩ : ∃ x : World, x = w3 := ⟨_, rfl⟩
              refine stepH 6 rfl (by kernel_rfl) (by rfl) (fun K hK => ?_)
              go_simp
              (refine hK.out _ _ ?_ (fun hHeld => ?_))
              · trivial
              clear hK K
              have HC := Lib.hid (Blk.new wc 3 #[.int .i64 f])
              have HNE := Lib.hid (show some wc.heap.size ≠ va.ownBlock from fun e => by have := (HA.out.lt _ e.symm).2; omega)
              replace HA := Lib.hid (HA.out.alloc (.cells #[.int .i64 f] 3))
              replace HBL := Lib.hid (HBL.out.alloc HBL.out.size (.cells #[.int .i64 f] 3))
              generalize hwn : wc.alloc (.cells #[.int .i64 f] 3) = wn at *
              clear hwn
              generalize hgc : wc.heap.size = gc at *
              clear hgc
              obtain ⟨wc, rfl⟩ : ∃ x : World, x = wn := ⟨_, rfl⟩
              refine stepH 7 rfl (by kernel_rfl) (by rfl) (fun K hK => ?_)
              (refine wp_append_any _ (.tmp 54) (.tmp 56) _ rfl w0.heap.size 3 i0 _ 1 8 Try.underlying39 hi0 hz0' hz1 hz2 rfl (by omega) _ (0 + k) _ rfl HA.out _ (some ⟨gc, 0, none⟩) 1 _ [.int .i64 f] rfl (reads_in HC.out) (by simp; rfl) (by unfold maxLen; omega) (by omega) HBL.out.size ?_; intro v2 w3 hown2 hg2 hat2)
              (refine hK.out _ _ ?_ (fun hHeld => ?_))
              · trivial
              clear hK K
              have HC2 := Lib.hid (HC.out.grown hg2 HNE.out)
              replace HNE := Lib.hid (show some gc ≠ v2.ownBlock from by
                rcases hat2 with e | e
                · rw [e]; exact HNE.out
                · rw [e]; exact fun e => absurd (Option.some.inj e) (by have := HC.out.lt; omega))
              replace HC := HC2
              clear HC2
              replace HBL := Lib.hid (HBL.out.grown hg2 HBL.out.size (fun g hg => (HA.out.lt g hg).1))
              replace HA := Lib.hid hown2
              clear hown2 hg2 hat2
              obtain ⟨va, rfl⟩ : ∃ x : Value, x = v2 := ⟨_, rfl⟩
              obtain ⟨wc, rfl⟩ : ∃ x : World, x = w3 := ⟨_, rfl⟩
              refine stepH 11 rfl (by kernel_rfl) (by rfl) (fun K hK => ?_)
              (refine wp_append_any _ (.tmp 57) (.tmp 60) _ rfl w0.heap.size 3 i0 _ 1 8 Try.underlying39 hi0 hz0' hz1 hz2 rfl (by omega) _ (0 + k + 1) _ rfl HA.out _ A2 (t - k) _ ((fs.drop k).map (Value.int .i64)) rfl (HRD2.out.below HBL.out) ins_one (by unfold maxLen; omega) (by omega) HBL.out.size ?_; intro v2 w3 hown2 hg2 hat2)
              (refine hK.out _ _ ?_ (fun hHeld => ?_))
              · trivial
              clear hK K
              have HC2 := Lib.hid (HC.out.grown hg2 HNE.out)
              replace HNE := Lib.hid (show some gc ≠ v2.ownBlock from by
                rcases hat2 with e | e
                · rw [e]; exact HNE.out
                · rw [e]; exact fun e => absurd (Option.some.inj e) (by have := HC.out.lt; omega))
              replace HC := HC2
              clear HC2
              replace HBL := Lib.hid (HBL.out.grown hg2 HBL.out.size (fun g hg => (HA.out.lt g hg).1))
              replace HA := Lib.hid hown2
              clear hown2 hg2 hat2
              obtain ⟨va, rfl⟩ : ∃ x : Value, x = v2 := ⟨_, rfl⟩
              obtain ⟨wc, rfl⟩ : ∃ x : World, x = w3 := ⟨_, rfl⟩
              ((refine takeY 12 (v := ?_) rfl (by kernel_rfl) (by kernel_rfl) (by kernel_rfl) (fun _ _ _ h => h) (by rfl) (by assumption) ?_ ?_; rotate_left; · (intro w hSw; (try dsimp only at hSw); go_simp; (first | done | with_reducible rfl))))
              (try simp only [Act.put, List.setIfInBounds_toArray, List.set_cons_zero, List.set_cons_succ])
              refine wpAnyH_done (by kernel_rfl) ?_ _
              clear hHeld hs1 hs2 HC HNE
              go_wp2
              refine ⟨⟨i + 1, fs.take k ++ f :: fs.drop k, by go_num, by omega, ?_, HPL.out.ins HX.out HPP.out, HR2.out.below HBL.out, HB2.out.trans (HBL.out.mono HB2.out.size)⟩, by simp [cntI]; omega⟩
              have hA9 := HA.out
              rw [List.nil_append] at hA9
              show World.ownsRow _ _ _ _ _ _ _
              rw [show (fs.take k ++ f :: fs.drop k).length = 0 + k + 1 + (t - k) from by rw [List.length_append, List.length_cons, List.length_take, List.length_drop]; have := HT.out; omega, List.map_append, List.map_cons]
              rw [List.append_assoc] at hA9
              exact ownsRow_mono hA9 HB2.out.size
            · go_simp
              (refine hK.out _ _ ?_ (fun hHeld => ?_))
              · trivial
              clear hK K
              have HC := Lib.hid (Blk.new wc 3 #[.int .i64 f])
              have HNE := Lib.hid (show some wc.heap.size ≠ (Value.slice (some ⟨ga, 0, none⟩) 0 0).ownBlock from fun e => absurd ((HA.out.lt _ e.symm).2) (by omega))
              replace HA := Lib.hid (HA.out.alloc (.cells #[.int .i64 f] 3))
              replace HBL := Lib.hid (HBL.out.alloc HBL.out.size (.cells #[.int .i64 f] 3))
              generalize hwn : wc.alloc (.cells #[.int .i64 f] 3) = wn at *
              clear hwn
              generalize hgc : wc.heap.size = gc at *
              clear hgc
              obtain ⟨wc, rfl⟩ : ∃ x : World, x = wn := ⟨_, rfl⟩
              refine stepH 4 rfl (by kernel_rfl) (by rfl) (fun K hK => ?_)
              (refine wp_append_any _ (.tmp 50) (.tmp 53) _ rfl w0.heap.size 3 i0 _ 1 8 Try.underlying39 hi0 hz0' hz1 hz2 rfl (by omega) _ 0 _ rfl HA.out _ A k _ ((fs.take k).map (Value.int .i64)) rfl (HRD1.out.below HBL.out) ins_one (by unfold maxLen; omega) (by omega) HBL.out.size ?_; intro v2 w3 hown2 hg2 hat2)
              (refine hK.out _ _ ?_ (fun hHeld => ?_))
              · trivial
              clear hK K
              have HC2 := Lib.hid (HC.out.grown hg2 HNE.out)
              replace HNE := Lib.hid (show some gc ≠ v2.ownBlock from by
                rcases hat2 with e | e
                · rw [e]; exact HNE.out
                · rw [e]; exact fun e => absurd (Option.some.inj e) (by have := HC.out.lt; omega))
              replace HC := HC2
              clear HC2
              replace HBL := Lib.hid (HBL.out.grown hg2 HBL.out.size (fun g hg => (HA.out.lt g hg).1))
              replace HA := Lib.hid hown2
              clear hown2 hg2 hat2
              obtain ⟨va, rfl⟩ : ∃ x : Value, x = v2 := ⟨_, rfl⟩
              obtain ⟨wc, rfl⟩ : ∃ x : World, x = w3 := ⟨_, rfl⟩
              refine stepH 7 rfl (by kernel_rfl) (by rfl) (fun K hK => ?_)
              (refine wp_append_any _ (.tmp 54) (.tmp 56) _ rfl w0.heap.size 3 i0 _ 1 8 Try.underlying39 hi0 hz0' hz1 hz2 rfl (by omega) _ (0 + k) _ rfl HA.out _ (some ⟨gc, 0, none⟩) 1 _ [.int .i64 f] rfl (reads_in HC.out) (by simp; rfl) (by unfold maxLen; omega) (by omega) HBL.out.size ?_; intro v2 w3 hown2 hg2 hat2)
              (refine hK.out _ _ ?_ (fun hHeld => ?_))
              · trivial
              clear hK K
              have HC2 := Lib.hid (HC.out.grown hg2 HNE.out)
              replace HNE := Lib.hid (show some gc ≠ v2.ownBlock from by
                rcases hat2 with e | e
                · rw [e]; exact HNE.out
                · rw [e]; exact fun e => absurd (Option.some.inj e) (by have := HC.out.lt; omega))
              replace HC := HC2
              clear HC2
              replace HBL := Lib.hid (HBL.out.grown hg2 HBL.out.size (fun g hg => (HA.out.lt g hg).1))
              replace HA := Lib.hid hown2
              clear hown2 hg2 hat2
              obtain ⟨va, rfl⟩ : ∃ x : Value, x = v2 := ⟨_, rfl⟩
              obtain ⟨wc, rfl⟩ : ∃ x : World, x = w3 := ⟨_, rfl⟩
              refine stepH 11 rfl (by kernel_rfl) (by rfl) (fun K hK => ?_)
              (refine wp_append_any _ (.tmp 57) (.tmp 60) _ rfl w0.heap.size 3 i0 _ 1 8 Try.underlying39 hi0 hz0' hz1 hz2 rfl (by omega) _ (0 + k + 1) _ rfl HA.out _ A2 (t - k) _ ((fs.drop k).map (Value.int .i64)) rfl (HRD2.out.below HBL.out) ins_one (by unfold maxLen; omega) (by omega) HBL.out.size ?_; intro v2 w3 hown2 hg2 hat2)
              (refine hK.out _ _ ?_ (fun hHeld => ?_))
              · trivial
              clear hK K
              have HC2 := Lib.hid (HC.out.grown hg2 HNE.out)
              replace HNE := Lib.hid (show some gc ≠ v2.ownBlock from by
                rcases hat2 with e | e
                · rw [e]; exact HNE.out
                · rw [e]; exact fun e => absurd (Option.some.inj e) (by have := HC.out.lt; omega))
              replace HC := HC2
              clear HC2
              replace HBL := Lib.hid (HBL.out.grown hg2 HBL.out.size (fun g hg => (HA.out.lt g hg).1))
              replace HA := Lib.hid hown2
              clear hown2 hg2 hat2
              obtain ⟨va, rfl⟩ : ∃ x : Value, x = v2 := ⟨_, rfl⟩
              obtain ⟨wc, rfl⟩ : ∃ x : World, x = w3 := ⟨_, rfl⟩
              ((refine takeY 12 (v := ?_) rfl (by kernel_rfl) (by kernel_rfl) (by kernel_rfl) (fun _ _ _ h => h) (by rfl) (by assumption) ?_ ?_; rotate_left; · (intro w hSw; (try dsimp only at hSw); go_simp; (first | done | with_reducible rfl))))
              (try simp only [Act.put, List.setIfInBounds_toArray, List.set_cons_zero, List.set_cons_succ])
              refine wpAnyH_done (by kernel_rfl) ?_ _
              clear hHeld hs1 hs2 HC HNE
              go_wp2
              refine ⟨⟨i + 1, fs.take k ++ f :: fs.drop k, by go_num, by omega, ?_, HPL.out.ins HX.out HPP.out, HR2.out.below HBL.out, HB2.out.trans (HBL.out.mono HB2.out.size)⟩, by simp [cntI]; omega⟩
              have hA9 := HA.out
              rw [List.nil_append] at hA9
              show World.ownsRow _ _ _ _ _ _ _
              rw [show (fs.take k ++ f :: fs.drop k).length = 0 + k + 1 + (t - k) from by rw [List.length_append, List.length_cons, List.length_take, List.length_drop]; have := HT.out; omega, List.map_append, List.map_cons]
              rw [List.append_assoc] at hA9
              exact ownsRow_mono hA9 HB2.out.size
          · go_simp
            (refine hK.out _ _ ?_ (fun hHeld => ?_))
            · trivial
            clear hK K
            have HC := Lib.hid (Blk.new wc 3 #[.int .i64 f])
            replace HBL := Lib.hid (HBL.out.alloc HBL.out.size (.cells #[.int .i64 f] 3))
            generalize hwn : wc.alloc (.cells #[.int .i64 f] 3) = wn at *
            clear hwn
            generalize hgc : wc.heap.size = gc at *
            clear hgc
            obtain ⟨wc, rfl⟩ : ∃ x : World, x = wn := ⟨_, rfl⟩
            refine stepH 0 rfl (by kernel_rfl) (by rfl) (fun K hK => ?_)
            go_simp
            (refine hK.out _ _ ?_ (fun hHeld => ?_))
            · trivial
            clear hK K
            have HA := Lib.hid (show (wc.alloc (.cells #[] 3)).ownsRow w0.heap.size 3 1 (.slice (some ⟨wc.heap.size, 0, none⟩) 0 0) 0 [] from World.ownsRow_lit wc #[] 0 HBL.out.size (by unfold maxLen; omega) rfl)
            have HNE := Lib.hid (show some gc ≠ (Value.slice (some ⟨wc.heap.size, 0, none⟩) 0 0).ownBlock from fun e => absurd (Option.some.inj e) (by have := HC.out.lt; show ¬ gc = wc.heap.size; omega))
            replace HC := Lib.hid (HC.out.alloc (.cells #[] 3))
            replace HBL := Lib.hid (HBL.out.alloc HBL.out.size (.cells #[] 3))
            generalize hwn : wc.alloc (.cells #[] 3) = wn at *
            clear hwn
            generalize hga : wc.heap.size = ga at *
            clear hga
            obtain ⟨wc, rfl⟩ : ∃ x : World, x = wn := ⟨_, rfl⟩
            refine stepH 4 rfl (by kernel_rfl) (by rfl) (fun K hK => ?_)
            (refine wp_append_any _ (.tmp 50) (.tmp 53) _ rfl w0.heap.size 3 i0 _ 1 8 Try.underlying39 hi0 hz0' hz1 hz2 rfl (by omega) _ 0 _ rfl HA.out _ A k _ ((fs.take k).map (Value.int .i64)) rfl (HRD1.out.below HBL.out) ins_one (by unfold maxLen; omega) (by omega) HBL.out.size ?_; intro v2 w3 hown2 hg2 hat2)
            (refine hK.out _ _ ?_ (fun hHeld => ?_))
            · trivial
            clear hK K
            have HC2 := Lib.hid (HC.out.grown hg2 HNE.out)
            replace HNE := Lib.hid (show some gc ≠ v2.ownBlock from by
              rcases hat2 with e | e
              · rw [e]; exact HNE.out
              · rw [e]; exact fun e => absurd (Option.some.inj e) (by have := HC.out.lt; omega))
            replace HC := HC2
            clear HC2
            replace HBL := Lib.hid (HBL.out.grown hg2 HBL.out.size (fun g hg => (HA.out.lt g hg).1))
            replace HA := Lib.hid hown2
            clear hown2 hg2 hat2
            obtain ⟨va, rfl⟩ : ∃ x : Value, x = v2 := ⟨_, rfl⟩
            obtain ⟨wc, rfl⟩ : ∃ x : World, x = w3 := ⟨_, rfl⟩
            refine stepH 7 rfl (by kernel_rfl) (by rfl) (fun K hK => ?_)
            (refine wp_append_any _ (.tmp 54) (.tmp 56) _ rfl w0.heap.size 3 i0 _ 1 8 Try.underlying39 hi0 hz0' hz1 hz2 rfl (by omega) _ (0 + k) _ rfl HA.out _ (some ⟨gc, 0, none⟩) 1 _ [.int .i64 f] rfl (reads_in HC.out) (by simp; rfl) (by unfold maxLen; omega) (by omega) HBL.out.size ?_; intro v2 w3 hown2 hg2 hat2)
            (refine hK.out _ _ ?_ (fun hHeld => ?_))
            · trivial
            clear hK K
            have HC2 := Lib.hid (HC.out.grown hg2 HNE.out)
            replace HNE := Lib.hid (show some gc ≠ v2.ownBlock from by
              rcases hat2 with e | e
              · rw [e]; exact HNE.out
              · rw [e]; exact fun e => absurd (Option.some.inj e) (by have := HC.out.lt; omega))
            replace HC := HC2
            clear HC2
            replace HBL := Lib.hid (HBL.out.grown hg2 HBL.out.size (fun g hg => (HA.out.lt g hg).1))
            replace HA := Lib.hid hown2
            clear hown2 hg2 hat2
            obtain ⟨va, rfl⟩ : ∃ x : Value, x = v2 := ⟨_, rfl⟩
            obtain ⟨wc, rfl⟩ : ∃ x : World, x = w3 := ⟨_, rfl⟩
            refine stepH 11 rfl (by kernel_rfl) (by rfl) (fun K hK => ?_)
            (refine wp_append_any _ (.tmp 57) (.tmp 60) _ rfl w0.heap.size 3 i0 _ 1 8 Try.underlying39 hi0 hz0' hz1 hz2 rfl (by omega) _ (0 + k + 1) _ rfl HA.out _ A2 (t - k) _ ((fs.drop k).map (Value.int .i64)) rfl (HRD2.out.below HBL.out) ins_one (by unfold maxLen; omega) (by omega) HBL.out.size ?_; intro v2 w3 hown2 hg2 hat2)
            (refine hK.out _ _ ?_ (fun hHeld => ?_))
            · trivial
            clear hK K
            have HC2 := Lib.hid (HC.out.grown hg2 HNE.out)
            replace HNE := Lib.hid (show some gc ≠ v2.ownBlock from by
              rcases hat2 with e | e
              · rw [e]; exact HNE.out
              · rw [e]; exact fun e => absurd (Option.some.inj e) (by have := HC.out.lt; omega))
            replace HC := HC2
            clear HC2
            replace HBL := Lib.hid (HBL.out.grown hg2 HBL.out.size (fun g hg => (HA.out.lt g hg).1))
            replace HA := Lib.hid hown2
            clear hown2 hg2 hat2
            obtain ⟨va, rfl⟩ : ∃ x : Value, x = v2 := ⟨_, rfl⟩
            obtain ⟨wc, rfl⟩ : ∃ x : World, x = w3 := ⟨_, rfl⟩
            ((refine takeY 12 (v := ?_) rfl (by kernel_rfl) (by kernel_rfl) (by kernel_rfl) (fun _ _ _ h => h) (by rfl) (by assumption) ?_ ?_; rotate_left; · (intro w hSw; (try dsimp only at hSw); go_simp; (first | done | with_reducible rfl))))
            (try simp only [Act.put, List.setIfInBounds_toArray, List.set_cons_zero, List.set_cons_succ])
            refine wpAnyH_done (by kernel_rfl) ?_ _
            clear hHeld hs1 hs2 HC HNE
            go_wp2
            refine ⟨⟨i + 1, fs.take k ++ f :: fs.drop k, by go_num, by omega, ?_, HPL.out.ins HX.out HPP.out, HR2.out.below HBL.out, HB2.out.trans (HBL.out.mono HB2.out.size)⟩, by simp [cntI]; omega⟩
            have hA9 := HA.out
            rw [List.nil_append] at hA9
            show World.ownsRow _ _ _ _ _ _ _
            rw [show (fs.take k ++ f :: fs.drop k).length = 0 + k + 1 + (t - k) from by rw [List.length_append, List.length_cons, List.length_take, List.length_drop]; have := HT.out; omega, List.map_append, List.map_cons]
            rw [List.append_assoc] at hA9
            exact ownsRow_mono hA9 HB2.out.size
    · obtain rfl : i = n := by omega
      have g1 : decide ((i : Int) < (i : Int)) = false := by simp
      go_wp2
      go_ret
      exact ⟨_, fs, rfl, HPL.out.all HN.out HS.out, HRW.out, HB.out⟩
end Go.Proofs.Ytdnfjpelhiniaaa
