/- Package rmap: Frames, List. -/
import Derived.Test.YtdnfjpelhiniaaaRme
import Derived.Test.YtdnfjpelhiniaaaSor
import Derived.Test.YtdnfjpelhiniaaaBuilt
namespace Go.Proofs.Ytdnfjpelhiniaaa
open Go.RowKit Mf

theorem infoI : (Try.prog.info? 3).map (fun i => (i.zero, i.size, i.bytes)) = some (some (.int .i64 0), 1, 8) := by kernel_rfl

theorem keys_le {E : Type} {P : Program} {K : TypeId} {q : IntKind} {C : Enc E} {w : World} {b n : Nat} {f : Int → Option E} (h : MapF P K q C w b n f) (KK : Go.Maps.Keyed P K) (hk : P.underlying K = some (.int q)) {t e : TypeId} (ht : P.underlying t = some (.map K e)) :
    ∃ ks : List Int, (∀ k, k ∈ ks ↔ (f k).isSome = true) ∧ ks.length ≤ n := by
  obtain ⟨ks, _, h2, h3⟩ := h.keys KK hk ht
  obtain ⟨D, ho, _⟩ := h
  have a := h3 0
  rw [ho.len ht 0] at a
  have hle := ho.size_le
  refine ⟨ks, h2, ?_⟩
  injection a with a _
  injection a with _ a
  omega

/-- The frames that are used, rising. -/
def FramesOf (u : Int → Plc → Bool) (fs : List Int) : Prop := fs.Pairwise (· < ·) ∧ ∀ k, k ∈ fs ↔ ∃ p, u k p = true
theorem FramesOf.unique {u : Int → Plc → Bool} {fs gs : List Int} (h : FramesOf u fs) (k : FramesOf u gs) : fs = gs := by
  have hn : ∀ {l : List Int}, l.Pairwise (· < ·) → l.Nodup := fun h => h.imp fun h e => by omega
  have hp : fs.Perm gs := (List.perm_ext_iff_of_nodup (hn h.1) (hn k.1)).2 fun f => by rw [h.2, k.2]
  exact List.Perm.eq_of_pairwise (le := (· < ·)) (fun a b _ _ h1 h2 => by omega) h.1 k.1 hp
theorem srt_lt {xs : List Int} (h : xs.Pairwise (· ≠ ·)) : (srt xs).Pairwise (· < ·) ∧ ∀ k, k ∈ srt xs ↔ k ∈ xs := by
  have hp : (srt xs).Perm xs := List.mergeSort_perm xs _
  have h1 : (srt xs).Pairwise (fun a b => decide (a ≤ b) = true) := List.pairwise_mergeSort (fun a b c h1 h2 => by simp at h1 h2 ⊢; omega) (fun a b => by simp; omega) xs
  have h2 : (srt xs).Pairwise (· ≠ ·) := hp.symm.pairwise_iff (fun {_ _} hne => Ne.symm hne) |>.1 h
  refine ⟨(List.pairwise_and_iff.2 ⟨h1, h2⟩).imp fun {a b} h => ?_, fun k => hp.mem_iff⟩
  have h3 := h.1
  simp at h3
  have := h.2
  omega

section
variable {w : World} {W c mb N : Nat} {F : Int → Option Nat} {u : Int → Plc → Bool}

set_option maxHeartbeats 1000000 in
theorem mframes (h : RmAt w W c mb N F u) (hN : N ≤ 1048576) :
    Calls Try.prog 12 #[.pointer (some ⟨c, 0, none⟩)] w fun e w' => ∃ (v : Value) (fs : List Int), e = .returned v ∧ FramesOf u fs ∧ w'.ownsRow w.heap.size 3 1 v fs.length (fs.map (Value.int .i64)) ∧ Below w.heap.size w w' := by
  have c0 := (h.r.blk.cell 0).trans rfl
  have hm1 := Lib.hid h.r.out
  have hbl := h.r.blk.lt
  obtain ⟨ks, hks, hkl⟩ := keys_le h.r.out keyed3 Try.underlying3 (t := 49) Try.underlying49
  have HKS := Lib.hid hks
  have HH := Lib.hid h
  clear h hks
  obtain ⟨i0, hi0, hz0', hz1, hz2⟩ := info_parts infoI
  go_enter Try.func12, Try.ntmps12
  go_wp2_with (first
    | (at_range; refine wpList_range_f rfl _ _ rfl _ keyed3 Try.underlying3 Try.underlying49 rfl hm1.out ?_; intro w0 cnt hrg0 hg0 hs0)
    | go_in)
  go_frame
  go_loopw [3] (fun v wr => ∃ (left : Int → Bool) (cnt : Nat) (xs : List Int), wr.ownsRow (w.heap.size + 1) 3 1 v xs.length (xs.map (Value.int .i64)) ∧ RangesF Try.prog 3 .i64 refC wr mb w.heap.size N F left cnt ∧ Below w.heap.size w wr ∧ w.heap.size + 1 ≤ wr.heap.size ∧
      xs.Pairwise (· ≠ ·) ∧ ∀ k, k ∈ xs ↔ (F k).isSome = true ∧ left k = false)
    (fun _ wr => wr.rangeLeft mb w.heap.size)
  case atStart => exact ⟨_, cnt, [], World.ownsRow_nil _ _ _ _, hrg0, (Below.refl _ w).grown hg0 (Nat.le_refl _) (fun _ h => by cases h), by omega, List.Pairwise.nil, fun k => by simp; intro h1 h2; rw [h2] at h1; cases h1⟩
  case round =>
    obtain ⟨left, cnt1, xs, hown, hrg, hbel, hsz, hxp, hxs⟩ := hrel
    have HO := Lib.hid hown
    have HB := Lib.hid hbel
    have HX := Lib.hid hxs
    have HP := Lib.hid hxp
    have hl1 := Lib.hid hrg.left_eq
    have hlen : xs.length ≤ 1048576 := by
      have h2 := sub_len hxp (fun k hk => (HKS.out k).2 ((hxs k).1 hk).1)
      omega
    clear hown hbel hrg0 hg0 hs0 hxs hxp
    go_wp2_with (first
      | (at_next; refine wpList_next_f rfl _ rfl keyed3 Try.underlying3 rfl hrg ?_ ?_)
      | go_in)
    · intro hl0
      have hso := sort_own _ _ _ _ _ HO.out (by omega)
      have hfo := Lib.hid (srt_lt HP.out)
      go_wp2_with fail
      refine hso.mono ?_; rintro e w3 ⟨rfl, hown3, hg3⟩
      go_wp2
      go_ret
      exact ⟨_, srt xs, rfl, ⟨hfo.out.1, fun k => by
        rw [hfo.out.2 k, HX.out k]
        constructor
        · rintro ⟨h1, _⟩
          obtain ⟨b, hb⟩ := Option.isSome_iff_exists.1 h1
          exact HH.out.som k b hb
        · rintro ⟨p, hp⟩
          refine ⟨?_, hl0 k⟩
          cases hf : F k with
          | some b => rfl
          | none => rw [HH.out.r.non k hf p] at hp; cases hp⟩, by rw [srt_len]; exact ownsRow_mono hown3 (by omega), HB.out.grown hg3 HB.out.size (fun g hg => by have h1 := (HO.out.lt g hg).1; omega)⟩
    · intro k x w2 cnt2 hlk hfx hwk hrg2 hlt2 hg2 hs2 hen0
      have hen : (Instr.entry (.pointer (some ⟨w.heap.size, 0, none⟩))).run Try.prog w2 = .ok (.tuple #[.int .i64 k, .map (some x)]) w2 := hen0
      clear hen0
      have HR2 := Lib.hid hrg2
      have HG2 := Lib.hid hg2
      have HFX := Lib.hid hfx
      have hO3 := Lib.hid (HO.out.kept hg2 (.inr fun e => by have := (HO.out.lt _ e).1; omega))
      have hsz2 : wr.heap.size ≤ w2.heap.size := by omega
      clear hrg2 hg2 hfx hs2
      go_wp2_with (first
        | (at_builtin; refine wpList_append_any _ rfl (.tmp 14) (.tmp 16) _ rfl (w.heap.size + 1) 3 i0 _ 1 8 Try.underlying39 hi0 hz0' hz1 hz2 rfl (by omega) u3 _ _ rfl (hO3.out.alloc _) _ (some ⟨w2.heap.size, 0, none⟩) 1 1 [.int .i64 k] rfl (reads_one1 _ _ _) (by simp; rfl) (by unfold maxLen; omega) (by omega) (by simp; omega) ?_; intro v2 w4 hown2 hg4 hat2)
        | go_in)
      have hbig : Below (w.heap.size + 1) w2 w4 := ((Below.refl _ _).alloc (by omega) _).grown hg4 (by simp; omega) (fun g hg => (hO3.out.lt g hg).1)
      have hlm := hm1.out.lt
      have hR4 := HR2.out.below hbig (by omega) (by omega)
      have hnew : k ∉ xs := fun h => by have h1 := ((HX.out k).1 h).2; rw [hlk] at h1; cases h1
      refine ⟨⟨_, cnt2, xs ++ [k], by rw [List.length_append, List.map_append]; exact hown2, hR4, (HB.out.grown HG2.out HB.out.size (fun _ e => by cases e; exact Nat.le_refl _)).trans (hbig.mono (by omega)), by have := hbig.size; omega, ?_, fun j => ?_⟩, by rw [hR4.left_eq, hl1.out]; omega⟩
      · rw [List.pairwise_append]
        exact ⟨HP.out, by simp, fun a ha b hb => by rw [List.mem_singleton] at hb; subst hb; intro e; subst e; exact hnew ha⟩
      · rw [List.mem_append, List.mem_singleton, HX.out j]
        by_cases hj : j = k
        · subst hj
          rw [HFX.out]; simp
        · have hj' : (j == k) = false := by simpa using hj
          simp [hj', hj]
end
end Go.Proofs.Ytdnfjpelhiniaaa
