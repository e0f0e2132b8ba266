/- What Frame, Lent, Lend, Back, Drop and Add of package demesneref21 do: contracts. -/
import Derived.Test.YtephgikeofkblaaHosr
import Derived.BigRegion
namespace Go.Proofs.Ytephgikeofkblaa
open Go.RowKit Mf

def RefE (w : World) (rb B : Nat) (ps : List RP) : Prop := ∃ v, RefAt w rb B v ps
def ZP (ps : List RP) : Prop := ∀ x ∈ ps, x.lent = false → x.g = 0 ∧ x.p = 0
/-- The frame of the reference's calls: its own block, and blocks of pages. -/
abbrev RS (w : World) (rb B : Nat) : Nat → Prop := fun k => k = rb ∨ (B ≤ k ∧ ∃ cur, w.heap[k]? = some (.cells cur 58 (0, 0)))
theorem page_blk {w : World} {rb B g n c : Nat} {ps : List RP} (h : RefAt w rb B (.slice (some ⟨g, 0, none⟩) n c) ps) : B ≤ g ∧ ∃ cur, w.heap[g]? = some (.cells cur 58 (0, 0)) := by
  rcases h.own.2 with ⟨h1, _⟩ | ⟨g', cap, cur, h1, h2, h3, _⟩
  · cases h1
  · injection h1 with h1
    injection h1 with h1
    injection h1 with h1
    subst h1
    exact ⟨h2, cur, h3⟩
/-- What a step of the reference leaves. -/
def RefStep (w : World) (rb B : Nat) (ps : List RP) (len : Nat) (r : Value) (F : Int → Option Pg) (e : Ending) (w' : World) : Prop :=
  e = .returned r ∧ ∃ ps', RefE w' rb B ps' ∧ (∀ k, rf ps' k = F k) ∧ ps'.length = len ∧ (ZP ps → ZP ps') ∧ Only (RS w rb B) w w'

theorem zp_set {ps : List RP} {i : Nat} {x : RP} (h : ZP ps) (hx : x.lent = false → x.g = 0 ∧ x.p = 0) : ZP (ps.set i x) := by
  intro y hy
  rcases List.mem_or_eq_of_mem_set hy with h1 | h1
  · exact h y h1
  · subst h1; exact hx

/-- A page that is there: where it lies. -/
theorem ref_some {w : World} {rb B : Nat} {v : Value} {ps : List RP} (h : RefAt w rb B v ps) {i : Nat} {x : RP} (hx : ps[i]? = some x) : ∃ g c, v = .slice (some ⟨g, 0, none⟩) ps.length c ∧ B ≤ g := by
  have hil : i < ps.length := (List.getElem?_eq_some_iff.1 hx).1
  rcases own_any_slice h.own with ⟨_, h0⟩ | h1
  · omega
  · exact h1

theorem some_of_rf {ps : List RP} {k : Int} {y : Pg} (h : rf ps k = some y) : ∃ (i : Nat) (x : RP), k = (i : Int) + 1 ∧ ps[i]? = some x ∧ x.on = true ∧ y = ⟨x.fr, x.lent, x.g, x.p⟩ := by
  rcases rf_cases ps k with ⟨_, h1⟩ | ⟨_, _, _, h1⟩ | ⟨_, _, _, _, _, h1⟩ | ⟨i, x, h1, h2, h3, h4⟩
  · rw [h1] at h; cases h
  · rw [h1] at h; cases h
  · rw [h1] at h; cases h
  · rw [h4] at h; cases h; exact ⟨i, x, h1, h2, h3, rfl⟩

set_option maxHeartbeats 1000000 in
theorem rframe_any (rb B : Nat) (ps : List RP) (k : Int) (w : World) (h : RefE w rb B ps) (hlen : ps.length ≤ 1000000) (hk64 : -9223372036854775808 ≤ k ∧ k ≤ 9223372036854775807) :
    Calls Try.prog 16 #[.pointer (some ⟨rb, 0, none⟩), .int .i64 k] w fun e w' => e = .returned (.tuple #[.int .i64 (frameS (rf ps) k).1, .int .i64 (frameS (rf ps) k).2]) ∧ w = w' := by
  obtain ⟨v, h⟩ := h
  unfold frameS
  cases hf : rf ps k with
  | none =>
    have hat := Lib.hid (at_none rb B v ps k w h hf hlen hk64)
    clear h hf hlen hk64
    go_enter Try.func16, Try.ntmps16
    go_wp2_with fail
    refine hat.out.mono ?_; rintro e w1 ⟨rfl, rfl⟩
    go_wp2
    go_ret2
    exact ⟨rfl, rfl⟩
  | some y =>
    obtain ⟨i, x, hi, hx, hon, rfl⟩ := some_of_rf hf
    obtain ⟨g, c, rfl, _⟩ := ref_some h hx
    have c1 := (own_cell (q := 1) rpC_len h.own hx (by decide)).trans (show _ = some (.int .i64 x.fr) from rfl)
    have hat := Lib.hid (at_some rb B g c ps k i x w h hi hx hon hlen)
    clear h hf hlen hk64 hi hx hon
    go_enter Try.func16, Try.ntmps16
    go_wp2_with fail
    refine hat.out.mono ?_; rintro e w1 ⟨rfl, rfl⟩
    go_wp2
    go_ret2
    exact ⟨rfl, rfl⟩

set_option maxHeartbeats 1000000 in
theorem rlent_any (rb B : Nat) (ps : List RP) (k : Int) (w : World) (h : RefE w rb B ps) (hz : ZP ps) (hlen : ps.length ≤ 1000000) (hk64 : -9223372036854775808 ≤ k ∧ k ≤ 9223372036854775807) :
    Calls Try.prog 18 #[.pointer (some ⟨rb, 0, none⟩), .int .i64 k] w fun e w' => e = .returned (.tuple #[.agg #[.int .i64 (pgAt (rf ps) k).g, .int .u64 (pgAt (rf ps) k).p], .bool (pgAt (rf ps) k).lent]) ∧ Below w.heap.size w w' := by
  obtain ⟨v, h0⟩ := h
  have hb0 := (Below.refl w.heap.size w).alloc (Nat.le_refl _) (.cells #[.int .i64 0, .int .u64 0] 31)
  have h := h0.below hb0
  clear h0 hb0
  unfold pgAt
  cases hf : rf ps k with
  | none =>
    have hat := Lib.hid (at_none rb B v ps k _ h hf hlen hk64)
    clear h hf hlen hk64
    go_enter Try.func18, Try.ntmps18
    go_wp2_with fail
    refine hat.out.mono ?_; rintro e w1 ⟨rfl, rfl⟩
    go_wp2
    exact bodyPost_ret (v := .tuple #[.agg #[.int .i64 0, .int .u64 0], .bool false]) (by simp [results, Try.results18, go_sem]) rfl ⟨rfl, (Below.refl _ _).alloc (Nat.le_refl _) _⟩
  | some y =>
    obtain ⟨i, x, hi, hx, hon, rfl⟩ := some_of_rf hf
    obtain ⟨g, c, rfl, _⟩ := ref_some h hx
    have c2 := (own_cell (q := 2) rpC_len h.own hx (by decide)).trans (show _ = some (.bool x.lent) from rfl)
    have c3 := (own_cell (q := 3) rpC_len h.own hx (by decide)).trans (show _ = some (.int .i64 x.g) from rfl)
    have c4 := (own_cell (q := 4) rpC_len h.own hx (by decide)).trans (show _ = some (.int .u64 x.p) from rfl)
    have hat := Lib.hid (at_some rb B g c ps k i x _ h hi hx hon hlen)
    have hz1 := hz x (List.mem_of_getElem? hx)
    clear h hf hlen hk64 hi hx hon hz
    obtain ⟨xo, xf, xl, xg, xp⟩ := x
    simp only at c2 c3 c4 hz1
    cases xl
    · obtain ⟨rfl, rfl⟩ := hz1 rfl
      clear hz1
      go_enter Try.func18, Try.ntmps18
      go_wp2_with fail
      refine hat.out.mono ?_; rintro e w1 ⟨rfl, rfl⟩
      go_wp2
      exact bodyPost_ret (v := .tuple #[.agg #[.int .i64 0, .int .u64 0], .bool false]) (by simp [results, Try.results18, go_sem]) rfl ⟨rfl, (Below.refl _ _).alloc (Nat.le_refl _) _⟩
    · clear hz1
      go_enter Try.func18, Try.ntmps18
      go_wp2_with fail
      refine hat.out.mono ?_; rintro e w1 ⟨rfl, rfl⟩
      go_wp2
      exact bodyPost_ret (v := .tuple #[.agg #[.int .i64 xg, .int .u64 xp], .bool true]) (by simp [results, Try.results18, go_sem]) rfl ⟨rfl, (Below.refl _ _).alloc (Nat.le_refl _) _⟩

theorem refstep_same {w w' : World} {rb B : Nat} {v : Value} {ps : List RP} (h : RefAt w rb B v ps) (hb : Below w.heap.size w w') (r : Value) (F : Int → Option Pg) (hF : ∀ k, rf ps k = F k) : RefStep w rb B ps ps.length r F (.returned r) w' :=
  ⟨rfl, ps, ⟨v, h.below hb⟩, hF, rfl, id, only_fresh hb⟩

set_option maxHeartbeats 1000000 in
theorem rdrop_any (rb B : Nat) (ps : List RP) (k : Int) (w : World) (h : RefE w rb B ps) (hlen : ps.length ≤ 1000000) (hk64 : -9223372036854775808 ≤ k ∧ k ≤ 9223372036854775807) :
    Calls Try.prog 14 #[.pointer (some ⟨rb, 0, none⟩), .int .i64 k] w (RefStep w rb B ps ps.length (.tuple #[.int .i64 (dropE (rf ps) k).1, .int .i64 (dropE (rf ps) k).2]) (dropF (rf ps) k)) := by
  obtain ⟨v, h⟩ := h
  unfold dropE dropF
  cases hf : rf ps k with
  | none =>
    have hat := Lib.hid (at_none rb B v ps k w h hf hlen hk64)
    have H := Lib.hid h
    clear h hf hlen hk64
    go_enter Try.func14, Try.ntmps14
    go_wp2_with fail
    refine hat.out.mono ?_; rintro e w1 ⟨rfl, rfl⟩
    go_wp2
    go_ret2
    exact refstep_same H.out (Below.refl _ _) _ _ (fun _ => rfl)
  | some y =>
    obtain ⟨i, x, hi, hx, hon, rfl⟩ := some_of_rf hf
    obtain ⟨g, c, rfl, hB⟩ := ref_some h hx
    have c0 := (own_cell (q := 0) rpC_len h.own hx (by decide)).trans (show _ = some (.bool x.on) from rfl)
    rw [Nat.add_zero] at c0
    have c1 := (own_cell (q := 1) rpC_len h.own hx (by decide)).trans (show _ = some (.int .i64 x.fr) from rfl)
    have c2 := (own_cell (q := 2) rpC_len h.own hx (by decide)).trans (show _ = some (.bool x.lent) from rfl)
    have hfz := h.own.frozenAt (i * 5)
    have hat := Lib.hid (at_some rb B g c ps k i x _ h hi hx hon hlen)
    have H := Lib.hid h
    have HI := Lib.hid hi
    have HX := Lib.hid hx
    have HO := Lib.hid hon
    clear h hf hlen hk64 hi hx hon
    obtain ⟨xo, xf, xl, xg, xp⟩ := x
    simp only at c0 c1 c2
    cases xl
    · go_enter Try.func14, Try.ntmps14
      go_wp2_with fail
      refine hat.out.mono ?_; rintro e w1 ⟨rfl, rfl⟩
      go_wp2
      go_ret2
      have hil : i < ps.length := (List.getElem?_eq_some_iff.1 HX.out).1
      have ho := (Only.refl (RS w rb B) w).setCell (p := ⟨g, i * 5, none⟩) (.inl (.inr (page_blk H.out))) (.bool false)
      refine ⟨rfl, ps.set i ⟨false, xf, false, xg, xp⟩, ⟨_, H.out.blk.far (p := ⟨g, i * 5, none⟩) (by have := H.out.lt; simp; omega) _, ?_, H.out.lt⟩, fun j => ?_, by simp, fun hz => zp_set hz (fun hl => hz ⟨xo, xf, false, xg, xp⟩ (List.mem_of_getElem? HX.out) hl), ho⟩
      · have := own_stored (q := 0) (x' := ⟨false, xf, false, xg, xp⟩) (u := .bool false) rpC_len H.out.own HX.out (by decide) rfl
        rw [List.length_set]
        exact this
      · rw [rf_set hil, HI.out]; rfl
    · go_enter Try.func14, Try.ntmps14
      go_wp2_with fail
      refine hat.out.mono ?_; rintro e w1 ⟨rfl, rfl⟩
      go_wp2
      go_ret2
      exact refstep_same H.out (Below.refl _ _) _ _ (fun _ => rfl)
end Go.Proofs.Ytephgikeofkblaa
