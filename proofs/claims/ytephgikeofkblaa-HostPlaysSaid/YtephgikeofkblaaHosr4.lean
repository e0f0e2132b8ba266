/- What Add and List of package demesneref21 do: contracts. -/
import Derived.Test.YtephgikeofkblaaHosr3
namespace Go.Proofs.Ytephgikeofkblaa
open Go.RowKit Mf

theorem infoP : (Try.prog.info? 58).map (fun i => (i.zero, i.size, i.bytes)) = some (some (.agg #[.bool false, .int .i64 0, .bool false, .int .i64 0, .int .u64 0]), 5, 40) := by kernel_rfl

theorem reads_five (w : World) (a b c d e : Value) (t : TypeId) : Reads (w.alloc (.cells #[a, b, c, d, e] t)) (w.alloc (.cells #[a, b, c, d, e] t)).heap.size 5 (some ⟨w.heap.size, 0, none⟩) 1 [a, b, c, d, e] := by
  refine ⟨rfl, fun _ => ⟨_, rfl, by simp, fun j u hj => ?_⟩⟩
  have hj5 : j < 5 := (List.getElem?_eq_some_iff.1 hj).1
  have := (Blk.new w t #[a, b, c, d, e]).cell j
  have e1 : (⟨w.heap.size, 0, none⟩ : Addr).add j = ⟨w.heap.size, j, none⟩ := by
    unfold Addr.add
    by_cases h0 : j = 0
    · subst h0; rfl
    · rw [if_neg h0]; simp
  rw [e1, this, ← hj]; simp

set_option maxHeartbeats 1000000 in
theorem radd_neg (rb : Nat) (fr : Int) (w : World) (h0 : fr < 0) :
    Calls Try.prog 8 #[.pointer (some ⟨rb, 0, none⟩), .int .i64 fr] w fun e w' => e = .returned (.tuple #[.int .i64 0, .int .i64 1]) ∧ w = w' := by
  go_enter Try.func8, Try.ntmps8
  go_wp2
  go_ret2
  exact ⟨rfl, rfl⟩

set_option maxHeartbeats 1000000 in
theorem radd_ok (rb B : Nat) (ps : List RP) (fr : Int) (w : World) (h : RefE w rb B ps) (hlen : ps.length ≤ 1000) (h0 : ¬ fr < 0) (hB : B ≤ w.heap.size) :
    Calls Try.prog 8 #[.pointer (some ⟨rb, 0, none⟩), .int .i64 fr] w (RefStep w rb B ps (ps.length + 1) (.tuple #[.int .i64 ((ps.length : Int) + 1), .int .i64 0]) (setF (rf ps) ((ps.length : Int) + 1) ⟨fr, false, 0, 0⟩)) := by
  obtain ⟨v, h⟩ := h
  obtain ⟨i0, hi0, hz0', hz1, hz2⟩ := info_parts infoP
  obtain ⟨A, c, rfl⟩ := own_slice h.own
  have c0 := h.c0
  have H := Lib.hid h
  have hrb := h.blk.lt
  have d1 : decide (65536 ≤ ps.length) = false := by rw [decide_eq_false_iff_not]; omega
  have d2 : decide ((65536 : Int) ≤ (ps.length : Int)) = false := by rw [decide_eq_false_iff_not]; omega
  have HL := Lib.hid hlen
  clear h hlen
  go_enter Try.func8, Try.ntmps8
  go_wp2_with (first
    | (at_builtin; refine wpList_append_any _ rfl (.tmp 18) (.tmp 21) _ rfl B 58 i0 _ 5 40 Try.underlying26 hi0 hz0' hz1 hz2 rfl (by omega) (.slice A ps.length c) _ _ rfl (H.out.own.alloc _) _ (some ⟨w.heap.size, 0, none⟩) 1 1 [.bool true, .int .i64 fr, .bool false, .int .i64 0, .int .u64 0] rfl (reads_five _ _ _ _ _ _ _) (by simp; exact ⟨rfl, rfl, rfl, rfl, rfl⟩) (by have := HL.out; unfold maxLen; omega) (by have := HL.out; omega) (by simp; omega) ?_; intro v2 w3 hown2 hg2 hat2; (obtain ⟨A2, c2, rfl⟩ := own_slice hown2); (have hbl3 : Blk w3 rb 28 #[.slice A ps.length c] := (H.out.blk.alloc _).grown hg2 (fun e => by have h1 := (H.out.own.lt rb e.symm).1; have h2 := H.out.lt; omega)); (have c3 := (hbl3.cell 0).trans rfl); (have hfz3 := hbl3.frozen 0); (have HBL3 := Lib.hid hbl3); (have HO3 := Lib.hid hown2); (have HG3 := Lib.hid hg2); clear hbl3 hown2 hg2 hat2)
    | go_in)
  go_ret2
  have e5 : (ps ++ [(⟨true, fr, false, 0, 0⟩ : RP)]).flatMap rpC = ps.flatMap rpC ++ [.bool true, .int .i64 fr, .bool false, .int .i64 0, .int .u64 0] := by
    rw [List.flatMap_append]; rfl
  have hset := HBL3.out.set_ 0 (.slice A2 (ps.length + 1) c2)
  have hown := own_only (S := fun k => k = rb) HO3.out (Only.setCell (S := fun k => k = rb) (Only.refl _ w3) (p := ⟨rb, 0, none⟩) (.inl rfl) (.slice A2 (ps.length + 1) c2)) (by rintro k rfl; exact H.out.lt)
  refine ⟨by rfl, ps ++ [(⟨true, fr, false, 0, 0⟩ : RP)], ⟨_, hset, ?_, H.out.lt⟩, fun k => ?_, by simp, fun hz x hx => ?_, ?_⟩
  · rw [e5, List.length_append]
    exact hown
  · rw [rf_add]; rfl
  · rcases List.mem_append.1 hx with h1 | h1
    · exact hz x h1
    · rw [List.mem_singleton] at h1
      subst h1
      exact fun _ => ⟨rfl, rfl⟩
  · refine Only.setCell ?_ (p := ⟨rb, 0, none⟩) (.inl (.inl rfl)) _
    exact ((Only.refl (RS w rb B) w).alloc _).grown HG3.out (fun g hg => .inl (.inr (by
      have h9 := H.out
      cases A with
      | none => cases hg
      | some a =>
        have hform := h9.own.2
        rcases hform with ⟨h1, _⟩ | ⟨g', cap, cur, h1, h2, h3, _⟩
        · cases h1
        · injection h1 with h1
          injection h1 with h1
          subst h1
          cases hg
          exact ⟨h2, cur, h3⟩)))

theorem UE_succ (k : Nat) : UE (k + 1) = UE k ++ [(k : Int) + 1] := by
  unfold UE; rw [List.range_succ, List.map_append]; rfl

/-- The pages up to k that are there. -/
def LU (f : Int → Option Pg) (k : Nat) : List Int := (UE k).filter fun i => (f i).isSome
theorem LU_succ (f : Int → Option Pg) (k : Nat) : LU f (k + 1) = LU f k ++ (if (f ((k : Int) + 1)).isSome then [(k : Int) + 1] else []) := by
  unfold LU
  rw [UE_succ, List.filter_append]
  congr 1
  cases h : f ((k : Int) + 1) <;> simp [h]
theorem LU_len (f : Int → Option Pg) (k : Nat) : (LU f k).length ≤ k := by
  have := List.length_filter_le (fun i => (f i).isSome) (UE k)
  rw [UE_len] at this
  exact this

def RelL (w : World) (rb B : Nat) (v : Value) (ps : List RP) (ov iv : Value) (wr : World) : Prop := ∃ k : Nat, iv = .int .i64 k ∧ k ≤ ps.length ∧ RefAt wr rb B v ps ∧ wr.ownsRow w.heap.size 3 1 ov (LU (rf ps) k).length ((LU (rf ps) k).map (Value.int .i64)) ∧ Below w.heap.size w wr

set_option maxHeartbeats 1000000 in
theorem rlist_any (rb B : Nat) (ps : List RP) (w : World) (h : RefE w rb B ps) (hlen : ps.length ≤ 1000) :
    Calls Try.prog 21 #[.pointer (some ⟨rb, 0, none⟩)] w (ListIs w (UE ps.length) (rf ps)) := by
  obtain ⟨v, h⟩ := h
  obtain ⟨i0, hi0, hz0', hz1, hz2⟩ := info_parts infoI
  obtain ⟨A, c, rfl⟩ := own_slice h.own
  have H := Lib.hid h
  have HL := Lib.hid hlen
  clear h hlen
  go_enter Try.func21, Try.ntmps21
  go_wp2
  go_loopw [3, 4] (RelL w rb B (.slice A ps.length c) ps) (fun _ i _ => ps.length - (intOf i).toNat)
  case atStart => exact ⟨0, rfl, Nat.zero_le _, H.out, World.ownsRow_nil _ _ _ _, Below.refl _ _⟩
  case round =>
    obtain ⟨k, rfl, hk, hra, hown, hbel⟩ := hrel
    have HR := Lib.hid hra
    have HO := Lib.hid hown
    have HB := Lib.hid hbel
    have c0 := hra.c0
    clear hra hown hbel
    by_cases hlt : k < ps.length
    · obtain ⟨x, hx⟩ : ∃ x, ps[k]? = some x := ⟨_, List.getElem?_eq_getElem hlt⟩
      obtain ⟨g, c', hs, hB⟩ := ref_some HR.out hx
      injection hs with hs1 hs2 hs3
      subst hs1 hs3
      have con := (own_cell (q := 0) rpC_len HR.out.own hx (by decide)).trans (show _ = some (.bool x.on) from rfl)
      rw [Nat.add_zero] at con
      have hsu : Hid (LU (rf ps) (k + 1) = LU (rf ps) k ++ (if (rf ps ((k : Int) + 1)).isSome then [(k : Int) + 1] else [])) := Lib.hid (LU_succ _ _)
      have hrf : rf ps ((k : Int) + 1) = pgOf x := by rw [rf_at ps rfl, hx]; rfl
      rw [hrf] at hsu
      have hle := LU_len (rf ps) k
      have hkb : (k : Int) ≤ 1000 := by have := HL.out; omega
      clear hx hrf
      cases hon : x.on
      · have hp : pgOf x = none := by unfold pgOf; rw [hon]; rfl
        rw [hon] at con
        rw [hp] at hsu
        clear hp hon
        go_wp2
        refine ⟨⟨k + 1, by go_num, hlt, HR.out, ?_, HB.out⟩, by simp only [intOf]; omega⟩
        rw [hsu.out]
        simp only [Option.isSome_none, Bool.false_eq_true, if_false, List.append_nil]
        exact HO.out
      · have hp : (pgOf x).isSome = true := by unfold pgOf; rw [hon]; rfl
        rw [hon] at con
        rw [hp] at hsu
        clear hp hon
        go_wp2_with (first
          | (at_builtin; refine wpList_append_any _ rfl (.tmp 22) (.tmp 25) _ rfl w.heap.size 3 i0 _ 1 8 Try.underlying45 hi0 hz0' hz1 hz2 rfl (by omega) u3 _ _ rfl (HO.out.alloc _) _ (some ⟨wr.heap.size, 0, none⟩) 1 1 [.int .i64 ((k : Int) + 1)] rfl (reads_one1 _ _ _) (by simp; rfl) (by have := HL.out; unfold maxLen; omega) (by have := HL.out; omega) (by have := HB.out.size; simp; omega) ?_; intro v2 w3 hown2 hg2 hat2)
          | go_in)
        have hbw : Below w.heap.size wr w3 := ((Below.refl _ _).alloc HB.out.size _).grown hg2 (by have := HB.out.size; simp; omega) (fun g hg => (HO.out.lt g hg).1)
        have hb3 := HB.out.trans hbw
        refine ⟨⟨k + 1, by go_num, hlt, H.out.below hb3, ?_, hb3⟩, by simp only [intOf]; omega⟩
        rw [hsu.out]
        simp only [if_true, List.length_append, List.map_append, List.length_singleton, List.map_cons, List.map_nil]
        exact hown2
    · obtain rfl : k = ps.length := by omega
      go_wp2
      go_ret
      exact ⟨_, rfl, HO.out, HB.out⟩
end Go.Proofs.Ytephgikeofkblaa
