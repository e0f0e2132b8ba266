/- What List of package host does: its contract. -/
import Derived.Test.YtephgikeofkblaaHos2
import Derived.Test.YtephgikeofkblaaBuilt
import Derived.Test.YtephgikeofkblaaSor
namespace Go.Proofs.Ytephgikeofkblaa
open Go.RowKit Mf

theorem infoI : (Try.prog.info? 3).map (fun i => (i.zero, i.size, i.bytes)) = some (some (.int .i64 0), 1, 8) := by kernel_rfl

/-- What List tells: a slice of its own with those of U that are there. -/
def ListIs (w : World) (U : List Int) (f : Int → Option Pg) (e : Ending) (w' : World) : Prop := ∃ v, e = .returned v ∧ w'.ownsRow w.heap.size 3 1 v (U.filter fun i => (f i).isSome).length ((U.filter fun i => (f i).isSome).map (Value.int .i64)) ∧ Below w.heap.size w w'

set_option maxHeartbeats 1000000 in
theorem list_any (b mb N : Nat) (last : Int) (f : Int → Option Pg) (U : List Int) (w : World) (h : BookAt w b mb N last f) (hU : U.Pairwise (· < ·)) (hUl : U.length ≤ 1048576) (hks0 : ∀ k, (f k).isSome = true → k ∈ U) :
    Calls Try.prog 19 #[.pointer (some ⟨b, 0, none⟩)] w (ListIs w U f) := by
  have c0 := h.c0
  have hm1 := Lib.hid h.m
  have hbl := h.blk.lt
  clear h
  obtain ⟨i0, hi0, hz0', hz1, hz2⟩ := info_parts infoI
  go_enter Try.func19, Try.ntmps19
  go_wp2_with (first
    | (at_range; refine wpList_range_f rfl _ _ rfl _ keyed3 Try.underlying3 Try.underlying52 rfl hm1.out ?_; intro w0 cnt hrg0 hg0 hs0)
    | go_in)
  go_frame
  go_loopw [3] (fun v wr => ∃ (left : Int → Bool) (cnt : Nat) (xs : List Int), wr.ownsRow (w.heap.size + 1) 3 1 v xs.length (xs.map (Value.int .i64)) ∧ RangesF Try.prog 3 .i64 pgC wr mb w.heap.size N f left cnt ∧ Below w.heap.size w wr ∧ w.heap.size + 1 ≤ wr.heap.size ∧
      xs.Pairwise (· ≠ ·) ∧ ∀ k, k ∈ xs ↔ (f k).isSome = true ∧ left k = false)
    (fun _ wr => wr.rangeLeft mb w.heap.size)
  case atStart => exact ⟨_, cnt, [], World.ownsRow_nil _ _ _ _, hrg0, (Below.refl _ w).grown hg0 (Nat.le_refl _) (fun _ h => by cases h), by omega, List.Pairwise.nil, fun k => by simp; intro h1 h2; rw [h2] at h1; cases h1⟩
  case round =>
    obtain ⟨left, cnt1, xs, hown, hrg, hbel, hsz, hxp, hxs⟩ := hrel
    have HO := Lib.hid hown
    have HB := Lib.hid hbel
    have HX := Lib.hid hxs
    have HP := Lib.hid hxp
    have hl1 := Lib.hid hrg.left_eq
    have hlen : xs.length ≤ 1048576 := by
      have h2 := sub_len hxp (fun k hk => hks0 k ((hxs k).1 hk).1)
      omega
    clear hown hbel hrg0 hg0 hs0 hxs hxp
    go_wp2_with (first
      | (at_next; refine wpList_next_f rfl _ rfl keyed3 Try.underlying3 rfl hrg ?_ ?_)
      | go_in)
    · intro hl0
      have hso := sort_own _ _ _ _ _ HO.out (by omega)
      go_wp2_with fail
      refine hso.mono ?_; rintro e w3 ⟨rfl, hown3, hg3⟩
      go_wp2
      go_ret
      have hpm : xs.Perm (U.filter fun i => (f i).isSome) := (List.perm_ext_iff_of_nodup HP.out ((hU.imp fun h e => by omega).filter _)).2 fun k => by
        rw [HX.out k, List.mem_filter]
        exact ⟨fun h => ⟨hks0 k h.1, h.1⟩, fun h => ⟨h.2, hl0 k⟩⟩
      have e1 := srt_eq hpm (hU.filter _)
      rw [e1, hpm.length_eq] at hown3
      exact ⟨_, rfl, ownsRow_mono hown3 (by omega), HB.out.grown hg3 HB.out.size (fun g hg => by have h1 := (HO.out.lt g hg).1; omega)⟩
    · intro k x w2 cnt2 hlk hfx hwk hrg2 hlt2 hg2 hs2 hen0
      obtain ⟨x1, x2, x3, x4⟩ := x
      have hen : (Instr.entry (.pointer (some ⟨w.heap.size, 0, none⟩))).run Try.prog w2 = .ok (.tuple #[.int .i64 k, .agg #[.int .i64 x1, .bool x2, .int .i64 x3, .int .u64 x4]]) w2 := hen0
      clear hen0
      have HR2 := Lib.hid hrg2
      have HG2 := Lib.hid hg2
      have HFX := Lib.hid hfx
      have hO3 := Lib.hid (HO.out.kept hg2 (.inr fun e => by have := (HO.out.lt _ e).1; omega))
      have hsz2 : wr.heap.size ≤ w2.heap.size := by omega
      clear hrg2 hg2 hfx hs2
      go_wp2_with (first
        | (at_builtin; refine wpList_append_any _ rfl (.tmp 14) (.tmp 16) _ rfl (w.heap.size + 1) 3 i0 _ 1 8 Try.underlying45 hi0 hz0' hz1 hz2 rfl (by omega) u3 _ _ rfl (hO3.out.alloc _) _ (some ⟨w2.heap.size, 0, none⟩) 1 1 [.int .i64 k] rfl (reads_one1 _ _ _) (by simp; rfl) (by unfold maxLen; omega) (by omega) (by simp; omega) ?_; intro v2 w4 hown2 hg4 hat2)
        | go_in)
      have hbig : Below (w.heap.size + 1) w2 w4 := ((Below.refl _ _).alloc (by omega) _).grown hg4 (by simp; omega) (fun g hg => (hO3.out.lt g hg).1)
      have hlm := hm1.out.lt
      have hR4 := HR2.out.below hbig (by omega) (by omega)
      have hnew : k ∉ xs := fun h => by have h1 := ((HX.out k).1 h).2; rw [hlk] at h1; cases h1
      refine ⟨⟨_, cnt2, xs ++ [k], by rw [List.length_append, List.map_append]; exact hown2, hR4, (HB.out.grown HG2.out HB.out.size (fun _ e => by cases e; exact Nat.le_refl _)).trans (hbig.mono (by omega)), by have := hbig.size; omega, ?_, fun j => ?_⟩, by rw [hR4.left_eq, hl1.out]; omega⟩
      · rw [List.pairwise_append]
        exact ⟨HP.out, by simp, fun a ha b hb => by rw [List.mem_singleton] at hb; subst hb; intro e; subst e; exact hnew ha⟩
      · rw [List.mem_append, List.mem_singleton, HX.out j]
        by_cases hj : j = k
        · subst hj
          rw [HFX.out]; simp
        · have hj' : (j == k) = false := by simpa using hj
          simp [hj', hj]
end Go.Proofs.Ytephgikeofkblaa
