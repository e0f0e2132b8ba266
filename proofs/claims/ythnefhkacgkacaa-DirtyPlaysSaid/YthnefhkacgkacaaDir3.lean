/- What Start, Stop and Collect of package dirty do: contracts; Collect over a sort that serves. -/
import Derived.Test.YthnefhkacgkacaaDir2
import Derived.Test.YthnefhkacgkacaaBuilt
namespace Go.Proofs.Ythnefhkacgkacaa
open Go.RowKit Mf

theorem dir_fresh {w : World} {b mb N B : Nat} {on on' : Bool} {f : Int → Option Int} (h : LogAt w b mb N on f) (hB : B ≤ w.heap.size) (W : World) (hW : W = ((w.setCell ⟨b, 0, none⟩ (.bool on')).setCell ⟨b, 1, none⟩ (.map (some w.heap.size))).alloc (.map #[] 0)) : DirE W b B on' (fun _ => false) 0 ∧ Only (DS w b B) w W := by
  subst hW
  have hs : ((w.setCell ⟨b, 0, none⟩ (.bool on')).setCell ⟨b, 1, none⟩ (.map (some w.heap.size))).heap.size = w.heap.size := by simp [World.setCell]
  refine ⟨⟨w.heap.size, _, [], ⟨?_, ?_⟩, hB, winv_new, Nat.le_refl _⟩, ?_⟩
  · exact ((h.blk.set_ 0 (.bool on')).set_ 1 (.map (some w.heap.size))).alloc _
  · have := MapF.new ((w.setCell ⟨b, 0, none⟩ (.bool on')).setCell ⟨b, 1, none⟩ (.map (some w.heap.size))) Try.prog 29 .u64 wdC
    rw [hs] at this
    exact this.mono (Nat.zero_le _)
  · exact (((Only.refl (DS w b B) w).setCell (p := ⟨b, 0, none⟩) (.inl (.inl rfl)) _).setCell (p := ⟨b, 1, none⟩) (.inl (.inl rfl)) _).alloc _

theorem dir_fresh1 {w : World} {b mb N : Nat} {on : Bool} {f : Int → Option Int} (h : LogAt w b mb N on f) : LogAt ((w.setCell ⟨b, 1, none⟩ (.map (some w.heap.size))).alloc (.map #[] 0)) b w.heap.size 0 on (fun _ => none) := by
  have hs : (w.setCell ⟨b, 1, none⟩ (.map (some w.heap.size))).heap.size = w.heap.size := by simp [World.setCell]
  refine ⟨(h.blk.set_ 1 (.map (some w.heap.size))).alloc _, ?_⟩
  have := MapF.new (w.setCell ⟨b, 1, none⟩ (.map (some w.heap.size))) Try.prog 29 .u64 wdC
  rw [hs] at this
  exact this

set_option maxHeartbeats 1000000 in
theorem turn_other (b B N : Nat) (on to : Bool) (P : Int → Bool) (w : World) (h : DirE w b B on P N) (hne : (on == to) = false) (hB : B ≤ w.heap.size) :
    Calls Try.prog 24 #[.pointer (some ⟨b, 0, none⟩), .bool to] w (DirStep w b B (.int .i64 0) to (fun _ => false) 0) := by
  have hmm := @run_makeMap Try.prog
  obtain ⟨mb, f, L, h, _⟩ := h
  have c0 := h.c0
  have c1 := h.c1
  have z0 := h.blk.frozen 0
  have z1 := h.blk.frozen 1
  have hlt := h.blk.lt
  have H := Lib.hid h
  clear h
  go_enter Try.func24, Try.ntmps24
  go_wp2
  go_ret
  obtain ⟨h1, h2⟩ := dir_fresh (on' := to) H.out hB _ rfl
  exact ⟨rfl, h1, h2⟩

set_option maxHeartbeats 1000000 in
theorem turn_same (b B N : Nat) (on : Bool) (P : Int → Bool) (w : World) (h : DirE w b B on P N) :
    Calls Try.prog 24 #[.pointer (some ⟨b, 0, none⟩), .bool on] w fun e w' => e = .returned (.int .i64 20) ∧ w = w' := by
  obtain ⟨mb, f, L, h, _⟩ := h
  have c0 := h.c0
  clear h
  go_enter Try.func24, Try.ntmps24
  go_wp2
  go_ret
  exact ⟨rfl, rfl⟩

theorem dstart_off (b B N : Nat) (P : Int → Bool) (w : World) (h : DirE w b B false P N) (hB : B ≤ w.heap.size) :
    Calls Try.prog 12 #[.pointer (some ⟨b, 0, none⟩)] w (DirStep w b B (.int .i64 0) true (fun _ => false) 0) := by
  have ht := Lib.hid (turn_other b B N false true P w h rfl hB)
  clear h
  go_enter Try.func12, Try.ntmps12
  go_wp2_with fail
  refine ht.out.mono ?_; rintro e w1 ⟨rfl, h1, h2⟩
  go_wp2
  go_ret
  exact ⟨rfl, h1, h2⟩

theorem dstart_on (b B N : Nat) (P : Int → Bool) (w : World) (h : DirE w b B true P N) :
    Calls Try.prog 12 #[.pointer (some ⟨b, 0, none⟩)] w fun e w' => e = .returned (.int .i64 20) ∧ w = w' := by
  have ht := Lib.hid (turn_same b B N true P w h)
  clear h
  go_enter Try.func12, Try.ntmps12
  go_wp2_with fail
  refine ht.out.mono ?_; rintro e w1 ⟨rfl, rfl⟩
  go_wp2
  go_ret
  exact ⟨rfl, rfl⟩

theorem dstop_on (b B N : Nat) (P : Int → Bool) (w : World) (h : DirE w b B true P N) (hB : B ≤ w.heap.size) :
    Calls Try.prog 14 #[.pointer (some ⟨b, 0, none⟩)] w (DirStep w b B (.int .i64 0) false (fun _ => false) 0) := by
  have ht := Lib.hid (turn_other b B N true false P w h rfl hB)
  clear h
  go_enter Try.func14, Try.ntmps14
  go_wp2_with fail
  refine ht.out.mono ?_; rintro e w1 ⟨rfl, h1, h2⟩
  go_wp2
  go_ret
  exact ⟨rfl, h1, h2⟩

theorem dstop_off (b B N : Nat) (P : Int → Bool) (w : World) (h : DirE w b B false P N) :
    Calls Try.prog 14 #[.pointer (some ⟨b, 0, none⟩)] w fun e w' => e = .returned (.int .i64 20) ∧ w = w' := by
  have ht := Lib.hid (turn_same b B N false P w h)
  clear h
  go_enter Try.func14, Try.ntmps14
  go_wp2_with fail
  refine ht.out.mono ?_; rintro e w1 ⟨rfl, rfl⟩
  go_wp2
  go_ret
  exact ⟨rfl, rfl⟩

set_option maxHeartbeats 400000 in
theorem dcoll_off (b B N : Nat) (P : Int → Bool) (w : World) (h : DirE w b B false P N) :
    Calls Try.prog 9 #[.pointer (some ⟨b, 0, none⟩)] w fun e w' => e = .returned (.tuple #[.slice none 0 0, .int .i64 20]) ∧ w = w' := by
  obtain ⟨mb, f, L, h, _⟩ := h
  have c0 := h.c0
  clear h
  go_enter Try.func9, Try.ntmps9
  go_wp2
  go_ret2
  exact ⟨rfl, rfl⟩

theorem infoW : (Try.prog.info? 29).map (fun i => (i.zero, i.size, i.bytes)) = some (some (.int .u64 0), 1, 8) := by kernel_rfl

/-- The list in order. -/
def srtU (l : List Int) : List Int := l.mergeSort fun x y => decide (x ≤ y)

/-- The library's sort serves for lists of at most m words. -/
def SortOk (m : Nat) : Prop := ∀ (base : Nat) (v : Value) (xs : List Int) (w : World), w.ownsRow base 29 1 v xs.length (xs.map (Value.int .u64)) → xs.length ≤ m →
  Calls Try.prog 23 #[v] w fun e w' => e = .returned (.tuple #[]) ∧ w'.ownsRow base 29 1 v xs.length ((srtU xs).map (Value.int .u64)) ∧ w.grownBy w' v.ownBlock

theorem srtU_perm (l : List Int) : (srtU l).Perm l := List.mergeSort_perm l _
theorem srtU_sorted {l : List Int} (h : l.Pairwise (· ≠ ·)) : (srtU l).Pairwise (· < ·) := by
  have h1 : (srtU l).Pairwise fun a b => decide (a ≤ b) = true := List.pairwise_mergeSort (fun a b c h1 h2 => by simp at h1 h2 ⊢; omega) (fun a b => by simp; omega) l
  have h2 : (srtU l).Pairwise (· ≠ ·) := (srtU_perm l).symm.pairwise h (fun h => h.symm)
  exact (h1.and h2).imp fun h => by
    have := h.1
    simp at this
    have := h.2
    omega

/-- What Collect leaves. -/
def CollIs (w : World) (b B : Nat) (P : Int → Bool) (e : Ending) (w' : World) : Prop := ∃ (v : Value) (xs : List Int), e = .returned (.tuple #[v, .int .i64 0]) ∧ xs.Pairwise (· < ·) ∧ (∀ p, p ∈ xs ↔ P p = true) ∧ w'.ownsRow w.heap.size 29 1 v xs.length (xs.map (Value.int .u64)) ∧ DirE w' b B true (fun _ => false) 0 ∧ Only (DS w b B) w w'

def RelCo (w : World) (mb N : Nat) (f : Int → Option Int) (P : Int → Bool) (ov : Value) (wr : World) : Prop := ∃ (left : Int → Bool) (cnt : Nat) (xs : List Int), wr.ownsRow (w.heap.size + 1) 29 1 ov xs.length (xs.map (Value.int .u64)) ∧ RangesF Try.prog 29 .u64 wdC wr mb w.heap.size N f left cnt ∧ Below w.heap.size w wr ∧ w.heap.size + 1 ≤ wr.heap.size ∧
  xs.Pairwise (· ≠ ·) ∧ ∀ p, p ∈ xs ↔ P p = true ∧ left (p / 64) = false
def RelCi (w : World) (mb N : Nat) (f : Int → Option Int) (P : Int → Bool) (left : Int → Bool) (k : Int) (cnt : Nat) (ov cv : Value) (wr : World) : Prop := ∃ (t : Nat) (xs : List Int), cv = .int .u64 t ∧ t ≤ 64 ∧ wr.ownsRow (w.heap.size + 1) 29 1 ov xs.length (xs.map (Value.int .u64)) ∧ RangesF Try.prog 29 .u64 wdC wr mb w.heap.size N f (fun j => left j && !(j == k)) cnt ∧ Below w.heap.size w wr ∧ w.heap.size + 1 ≤ wr.heap.size ∧
  xs.Pairwise (· ≠ ·) ∧ ∀ p, p ∈ xs ↔ P p = true ∧ (left (p / 64) = false ∨ (p / 64 = k ∧ p % 64 < t))

set_option maxRecDepth 100000 in
set_option maxHeartbeats 4000000 in
theorem dcoll_on (b B N : Nat) (P : Int → Bool) (w : World) (h : DirE w b B true P N) (hN : N ≤ 100000) (hB : B ≤ w.heap.size) (hso : SortOk N) :
    Calls Try.prog 9 #[.pointer (some ⟨b, 0, none⟩)] w (CollIs w b B P) := by
  have hmm := @run_makeMap Try.prog
  obtain ⟨mb, f, L, h, hmb, hi, hL⟩ := h
  obtain ⟨i0, hi0, hz0', hz1, hz2⟩ := info_parts infoW
  have c0 := h.c0
  have c1 := h.c1
  have hbl := h.blk.lt
  have hm1 := Lib.hid h.m
  have HI := Lib.hid hi
  have HA := Lib.hid h
  have HSO := Lib.hid hso
  clear h hi hso
  go_enter Try.func9, Try.ntmps9
  go_wp2_with (first
    | (at_range; refine wpList_range_f rfl _ _ rfl _ keyedU Try.underlying29 Try.underlying46 rfl hm1.out ?_; intro w0 cnt hrg0 hg0 hs0)
    | go_in)
  go_frame
  go_loopw [4] (RelCo w mb N f P) (fun _ wr => wr.rangeLeft mb w.heap.size)
  case atStart => exact ⟨_, cnt, [], World.ownsRow_nil _ _ _ _, hrg0, (Below.refl _ w).grown hg0 (Nat.le_refl _) (fun _ h => by cases h), by omega, List.Pairwise.nil, fun p => by
    simp only [List.not_mem_nil, false_iff, not_and]
    intro h1 h2
    have h3 := HI.out.rng p h1
    have h4 := HI.out.bits p h3
    rw [h1] at h4
    unfold hasB at h4
    cases hf : f (p / 64) with
    | none => rw [hf] at h4; simp at h4
    | some x => rw [hf] at h2; cases h2⟩
  case round =>
    obtain ⟨left, cnt1, xs, hown, hrg, hbel, hsz, hxp, hxs⟩ := hrel
    have HO := Lib.hid hown
    have HB := Lib.hid hbel
    have HX := Lib.hid hxs
    have HP := Lib.hid hxp
    have hl1 := Lib.hid hrg.left_eq
    clear hown hbel hrg0 hg0 hs0 hxs hxp
    go_wp2_with (first
      | (at_next; refine wpList_next_f rfl _ rfl keyedU Try.underlying29 rfl hrg ?_ ?_)
      | go_in)
    · intro hl0
      have hA := HA.out.below HB.out
      have c1r := hA.c1
      have z1 := hA.blk.frozen 1
      have hbr : b < wr.heap.size := hA.blk.lt
      have HAr := Lib.hid hA
      have hlen : xs.length ≤ N := by
        have h2 := sub_len HP.out (fun p hp => HI.out.list p ((HX.out p).1 hp).1)
        omega
      have hownW : ((wr.setCell ⟨b, 1, none⟩ (.map (some wr.heap.size))).alloc (.map #[] 0)).ownsRow (w.heap.size + 1) 29 1 u4 xs.length (xs.map (Value.int .u64)) :=
        (own_only (S := fun k => k = b) HO.out (Only.setCell (S := fun k => k = b) (Only.refl _ wr) (p := ⟨b, 1, none⟩) (.inl rfl) _) (by rintro k rfl; omega)).alloc _
      have hsoW := Lib.hid (HSO.out _ _ xs _ hownW hlen)
      clear hA hownW
      go_wp2_with fail
      refine hsoW.out.mono ?_; rintro e w3 ⟨rfl, hown3, hg3⟩
      go_wp2
      go_ret2
      have hLW := dir_fresh1 HAr.out
      have hL3 : LogAt w3 b wr.heap.size 0 true (fun _ => none) := by
        have ho : Only (fun k => u4.ownBlock = some k) _ w3 := (Only.refl _ _).grown hg3 (fun g hg => .inl hg)
        exact hLW.only ho (fun hg => by have := (HO.out.lt _ hg).1; omega) (fun hg => by have := (HO.out.lt _ hg).2; omega)
      refine ⟨u4, srtU xs, rfl, srtU_sorted HP.out, fun p => ?_, ?_, ⟨wr.heap.size, _, [], hL3, by have := HB.out.size; omega, winv_new, Nat.le_refl _⟩, ?_⟩
      · rw [(srtU_perm xs).mem_iff, HX.out p]
        exact ⟨fun h => h.1, fun h => ⟨h, hl0 _⟩⟩
      · rw [(srtU_perm xs).length_eq]
        exact ownsRow_mono hown3 (by omega)
      · refine Only.grown ?_ hg3 (fun g hg => .inr (by have := (HO.out.lt g hg).1; omega))
        exact ((only_fresh HB.out).setCell (p := ⟨b, 1, none⟩) (.inl (.inl rfl)) _).alloc _
    · intro k x w2 cnt2 hlk hfx hwk hrg2 hlt2 hg2 hs2 hen0
      have hen : (Instr.entry (.pointer (some ⟨w.heap.size, 0, none⟩))).run Try.prog w2 = .ok (.tuple #[.int .u64 k, .int .u64 x]) w2 := hen0
      clear hen0
      have hkb := HI.out.keys k (by rw [hfx]; rfl)
      have hxb := HI.out.vals k
      rw [hfx] at hxb
      simp only [Option.getD_some] at hxb
      have HR2 := Lib.hid hrg2
      have HG2 := Lib.hid hg2
      have HFX := Lib.hid hfx
      have HLK := Lib.hid hlk
      have hsz2 : wr.heap.size ≤ w2.heap.size := by omega
      have hO2 := Lib.hid (HO.out.kept hg2 (.inr fun e => by have := (HO.out.lt _ e).1; omega))
      have hB2 := Lib.hid (HB.out.grown hg2 HB.out.size (fun _ e => by cases e; exact Nat.le_refl _))
      clear hrg2 hg2 hfx hs2 hlk
      go_wp2_with fail
      obtain ⟨wo, rfl⟩ : ∃ wo : World, wo = wr := ⟨_, rfl⟩
      go_loopw [4, 23] (RelCi w mb N f P left k cnt2) (fun _ c _ => 64 - (intOf c).toNat)
      case atStart => exact ⟨0, xs, rfl, by omega, hO2.out, HR2.out, hB2.out, by omega, HP.out, fun p => by
        rw [HX.out p]
        constructor
        · rintro ⟨h1, h2⟩; exact ⟨h1, .inl h2⟩
        · rintro ⟨h1, h2 | ⟨_, h2⟩⟩
          · exact ⟨h1, h2⟩
          · omega⟩
      case round =>
        obtain ⟨t, ys, rfl, ht, hown, hrg, hbel, hsz3, hyp, hys⟩ := hrel
        have HOi := Lib.hid hown
        have HRi := Lib.hid hrg
        have HBi := Lib.hid hbel
        have HYi := Lib.hid hys
        have HPi := Lib.hid hyp
        clear hown hrg hbel hys hyp
        by_cases htl : t < 64
        · have hP : P (k * 64 + t) = x.toNat.testBit t := by
            rw [← HI.out.bits _ (by omega)]
            unfold hasB
            rw [show (k * 64 + (t : Int)) / 64 = k from by omega, show ((k * 64 + (t : Int)) % 64).toNat = t from by omega, HFX.out]
            rfl
          have hbit := bit_is hxb t
          have htz : (t : Int) < 64 := by omega
          cases hb : x.toNat.testBit t
          · rw [hb] at hbit hP
            have HPP := Lib.hid hP
            clear hb hP
            go_wp2
            exact ⟨⟨t + 1, ys, by go_num, htl, HOi.out, HRi.out, HBi.out, hsz3, HPi.out, fun p => by
              rw [HYi.out p]
              constructor
              · rintro ⟨h1, h2 | ⟨h2, h3⟩⟩
                · exact ⟨h1, .inl h2⟩
                · exact ⟨h1, .inr ⟨h2, by omega⟩⟩
              · rintro ⟨h1, h2 | ⟨h2, h3⟩⟩
                · exact ⟨h1, .inl h2⟩
                · refine ⟨h1, .inr ⟨h2, ?_⟩⟩
                  by_cases hpt : p % 64 = t
                  · have e : p = k * 64 + t := by omega
                    have h9 := HPP.out
                    rw [← e, h1] at h9
                    cases h9
                  · omega⟩, by simp only [intOf]; omega⟩
          · rw [hb] at hbit hP
            have HPP := Lib.hid hP
            have hlen : ys.length ≤ N := by
              have h2 := sub_len HPi.out (fun p hp => HI.out.list p ((HYi.out p).1 hp).1)
              omega
            clear hb hP
            go_wp2_with (first
              | (at_builtin; refine wpList_append_any _ rfl (.tmp 31) (.tmp 36) _ rfl (w.heap.size + 1) 29 i0 _ 1 8 Try.underlying26 hi0 hz0' hz1 hz2 rfl (by omega) u4 _ _ rfl (HOi.out.alloc _) _ (some ⟨wr.heap.size, 0, none⟩) 1 1 [.int .u64 (k * 64 + (t : Int))] rfl (reads_one1 _ _ _) (by simp; rfl) (by unfold maxLen; omega) (by omega) (by simp; omega) ?_; intro v2 w4 hown2 hg4 hat2)
              | go_in)
            have hbig : Below (w.heap.size + 1) wr w4 := ((Below.refl _ _).alloc (by omega) _).grown hg4 (by simp; omega) (fun g hg => (HOi.out.lt g hg).1)
            have hlm := hm1.out.lt
            have hR4 := HRi.out.below hbig (by omega) (by omega)
            have hnew : k * 64 + (t : Int) ∉ ys := fun h => by
              rcases ((HYi.out _).1 h).2 with h1 | ⟨_, h1⟩
              · rw [show (k * 64 + (t : Int)) / 64 = k from by omega, HLK.out] at h1; cases h1
              · omega
            refine ⟨⟨t + 1, ys ++ [k * 64 + (t : Int)], by go_num, htl, by rw [List.length_append, List.map_append]; exact hown2, hR4, HBi.out.trans (hbig.mono (by omega)), by have := hbig.size; omega, ?_, fun p => ?_⟩, by simp only [intOf]; omega⟩
            · rw [List.pairwise_append]
              exact ⟨HPi.out, by simp, fun a ha b hb => by rw [List.mem_singleton] at hb; subst hb; intro e; subst e; exact hnew ha⟩
            · rw [List.mem_append, List.mem_singleton, HYi.out p]
              constructor
              · rintro (⟨h1, h2 | ⟨h2, h3⟩⟩ | rfl)
                · exact ⟨h1, .inl h2⟩
                · exact ⟨h1, .inr ⟨h2, by omega⟩⟩
                · exact ⟨HPP.out, .inr ⟨by omega, by omega⟩⟩
              · rintro ⟨h1, h2 | ⟨h2, h3⟩⟩
                · exact .inl ⟨h1, .inl h2⟩
                · by_cases hpt : p % 64 = t
                  · exact .inr (by omega)
                  · exact .inl ⟨h1, .inr ⟨h2, by omega⟩⟩
        · obtain rfl : t = 64 := by omega
          go_wp2
          refine ⟨⟨_, cnt2, ys, HOi.out, HRi.out, HBi.out, hsz3, HPi.out, fun p => ?_⟩, by rw [HRi.out.left_eq, hl1.out]; omega⟩
          rw [HYi.out p]
          constructor
          · rintro ⟨h1, h2 | ⟨h2, h3⟩⟩
            · exact ⟨h1, by rw [h2]; rfl⟩
            · exact ⟨h1, by rw [h2]; simp⟩
          · rintro ⟨h1, h2⟩
            refine ⟨h1, ?_⟩
            by_cases hpk : p / 64 = k
            · exact .inr ⟨hpk, by omega⟩
            · have : (p / 64 == k) = false := by simpa using hpk
              rw [this] at h2
              simp at h2
              exact .inl h2
end Go.Proofs.Ythnefhkacgkacaa
