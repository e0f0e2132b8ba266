/- What New, Start, Stop, On, Has, Note and Forget of package dirty do: contracts over sets of pages. -/
import Derived.Test.YthnefhkacgkacaaDir
namespace Go.Proofs.Ythnefhkacgkacaa
open Go.RowKit Mf

/-- A log in memory, as a set of pages. -/
def DirE (w : World) (b B : Nat) (on : Bool) (P : Int → Bool) (N : Nat) : Prop := ∃ (mb : Nat) (f : Int → Option Int) (L : List Int), LogAt w b mb N on f ∧ B ≤ mb ∧ WInv f P L ∧ L.length ≤ N

/-- The frame of the log's calls: its own block, and maps. -/
abbrev DS (w : World) (b B : Nat) : Nat → Prop := fun k => k = b ∨ (B ≤ k ∧ ∃ es c, w.heap[k]? = some (.map es c))

theorem map_blk {w : World} {b mb N : Nat} {on : Bool} {f : Int → Option Int} (h : LogAt w b mb N on f) : ∃ es c, w.heap[mb]? = some (.map es c) := by
  obtain ⟨D, ⟨es, clock, hh, _⟩, _⟩ := h.m
  exact ⟨_, _, hh⟩

def DirStep (w : World) (b B : Nat) (r : Value) (on : Bool) (P : Int → Bool) (N : Nat) (e : Ending) (w' : World) : Prop := e = .returned r ∧ DirE w' b B on P N ∧ Only (DS w b B) w w'

theorem DirE.below {w w' : World} {b B N : Nat} {on : Bool} {P : Int → Bool} (h : DirE w b B on P N) (hb : Below w.heap.size w w') : DirE w' b B on P N := by
  obtain ⟨mb, f, L, h1, h2⟩ := h
  exact ⟨mb, f, L, h1.below hb, h2⟩
theorem DirE.lt {w : World} {b B N : Nat} {on : Bool} {P : Int → Bool} (h : DirE w b B on P N) : b < w.heap.size := by
  obtain ⟨mb, f, L, h1, h2⟩ := h
  exact h1.blk.lt
theorem DirE.mono {w : World} {b B N N' : Nat} {on : Bool} {P : Int → Bool} (h : DirE w b B on P N) (hN : N ≤ N') : DirE w b B on P N' := by
  obtain ⟨mb, f, L, h1, h2, h3, h4⟩ := h
  exact ⟨mb, f, L, ⟨h1.blk, h1.m.mono hN⟩, h2, h3, Nat.le_trans h4 hN⟩

theorem P_set {P : Int → Bool} {p : Int} (h : P p = true) : (fun q => P q || q == p) = P := by
  funext q
  by_cases hq : q = p
  · subst hq; simp [h]
  · simp [hq]

set_option maxHeartbeats 400000 in
theorem dnew_any (w : World) : Calls Try.prog 6 #[] w fun e w' => e = .returned (.pointer (some ⟨w.heap.size + 1, 0, none⟩)) ∧ DirE w' (w.heap.size + 1) w.heap.size false (fun _ => false) 0 ∧ Below w.heap.size w w' := by
  have hmm := @run_makeMap Try.prog
  go_enter Try.func6, Try.ntmps6
  go_wp2
  go_ret
  exact ⟨rfl, ⟨w.heap.size, _, [], ⟨by have := Blk.new (w.alloc (.map #[] 0)) 48 #[.bool false, .map (some w.heap.size)]; simpa using this, (MapF.new w _ _ _ wdC).alloc _⟩, Nat.le_refl _, winv_new, Nat.le_refl _⟩, ((Below.refl _ _).alloc (Nat.le_refl _) _).alloc (by simp) _⟩

set_option maxHeartbeats 400000 in
theorem don_any (b B N : Nat) (on : Bool) (P : Int → Bool) (w : World) (h : DirE w b B on P N) :
    Calls Try.prog 18 #[.pointer (some ⟨b, 0, none⟩)] w fun e w' => e = .returned (.bool on) ∧ w = w' := by
  obtain ⟨mb, f, L, h, _⟩ := h
  have c0 := h.c0
  clear h
  go_enter Try.func18, Try.ntmps18
  go_wp2
  go_ret
  exact ⟨rfl, rfl⟩

theorem dhas_any (b B N : Nat) (on : Bool) (P : Int → Bool) (p : Int) (w : World) (h : DirE w b B on P N) (hp : 0 ≤ p ∧ p < 18446744073709551616) :
    Calls Try.prog 19 #[.pointer (some ⟨b, 0, none⟩), .int .u64 p] w fun e w' => e = .returned (.bool (P p)) ∧ w = w' := by
  obtain ⟨mb, f, L, h, _, hi, _⟩ := h
  rw [← hi.bits p hp]
  exact has_at b mb N on f p w h hp (hi.vals _)

set_option maxHeartbeats 400000 in
theorem dnote_off (b B N : Nat) (P : Int → Bool) (p : Int) (w : World) (h : DirE w b B false P N) :
    Calls Try.prog 16 #[.pointer (some ⟨b, 0, none⟩), .int .u64 p] w fun e w' => e = .returned (.bool false) ∧ w = w' := by
  obtain ⟨mb, f, L, h, _⟩ := h
  have c0 := h.c0
  clear h
  go_enter Try.func16, Try.ntmps16
  go_wp2
  go_ret
  exact ⟨rfl, rfl⟩

set_option maxHeartbeats 1000000 in
theorem dnote_on (b B N : Nat) (P : Int → Bool) (p : Int) (w : World) (h : DirE w b B true P N) (hp : 0 ≤ p ∧ p < 18446744073709551616) (hN : N < maxLen) :
    Calls Try.prog 16 #[.pointer (some ⟨b, 0, none⟩), .int .u64 p] w (DirStep w b B (.bool (!P p)) true (fun q => P q || q == p) (N + 1)) := by
  have hh := dhas_any b B N true P p w h hp
  have H := Lib.hid h
  obtain ⟨mb, f, L, h, hB, hi, hL⟩ := h
  have c0 := h.c0
  cases hP : P p
  · rw [hP] at hh
    have hl := h.look (k := p / 64) (u64_lit (by omega))
    have c1 := h.c1
    obtain ⟨w3, hrun, hm3, ht3⟩ := h.m.store keyedU Try.underlying29 (t := 46) Try.underlying46 hN (u64_lit (x := p / 64) (by omega)) (orW ((f (p / 64)).getD 0) (p % 64).toNat)
    have hrun : (Instr.mapUpdate 46 (.map (some mb)) (.int .u64 (p / 64)) (.int .u64 (bits .or .u64 ((f (p / 64)).getD 0) (IntKind.u64.wrap (2 ^ (p % 64).toNat))))).run Try.prog w = .ok () w3 := hrun
    have ho3 : Only (fun k => k = mb) w w3 := (Only.refl _ w).turned ht3 (.inl rfl)
    have HD3 : Hid (DirE w3 b B true (fun q => P q || q == p) (N + 1)) := Lib.hid ⟨mb, _, p :: L, ⟨h.blk.only ho3 h.ne, hm3⟩, hB, winv_note hi hp, by rw [List.length_cons]; omega⟩
    have HO3 : Hid (Only (DS w b B) w w3) := Lib.hid (ho3.mono (fun k e => by subst e; exact .inr ⟨hB, map_blk h⟩))
    generalize (f (p / 64)).getD 0 = v at *
    clear hm3 ht3 ho3 h hi hL
    go_enter Try.func16, Try.ntmps16
    go_wp2_with fail
    refine hh.mono ?_; rintro e w1 ⟨rfl, rfl⟩
    go_wp2
    go_ret
    exact ⟨rfl, HD3.out, HO3.out⟩
  · rw [hP] at hh
    have HS := Lib.hid (P_set hP)
    clear h hi hL hP
    go_enter Try.func16, Try.ntmps16
    go_wp2_with fail
    refine hh.mono ?_; rintro e w1 ⟨rfl, rfl⟩
    go_wp2
    go_ret
    exact ⟨rfl, by rw [HS.out]; exact H.out.mono (Nat.le_succ _), Only.refl _ _⟩

set_option maxHeartbeats 1000000 in
theorem dforget_any (b B N : Nat) (on : Bool) (P : Int → Bool) (p : Int) (w : World) (h : DirE w b B on P N) (hp : 0 ≤ p ∧ p < 18446744073709551616) (hN : N < maxLen) :
    Calls Try.prog 7 #[.pointer (some ⟨b, 0, none⟩), .int .u64 p] w (DirStep w b B (.bool (P p)) on (fun q => P q && !(q == p)) (N + 1)) := by
  have hh := dhas_any b B N on P p w h hp
  have H := Lib.hid h
  obtain ⟨mb, f, L, h, hB, hi, hL⟩ := h
  cases hP : P p
  · rw [hP] at hh
    have HS : Hid ((fun q => P q && !(q == p)) = P) := Lib.hid (by
      funext q
      by_cases hq : q = p
      · subst hq; simp [hP]
      · simp [hq])
    clear h hi hL hP
    go_enter Try.func7, Try.ntmps7
    go_wp2_with fail
    refine hh.mono ?_; rintro e w1 ⟨rfl, rfl⟩
    go_wp2
    go_ret
    exact ⟨rfl, by rw [HS.out]; exact H.out.mono (Nat.le_succ _), Only.refl _ _⟩
  · rw [hP] at hh
    have hl := h.look (k := p / 64) (u64_lit (by omega))
    have c1 := h.c1
    obtain ⟨w3, hrun, hm3, ht3⟩ := h.m.store keyedU Try.underlying29 (t := 46) Try.underlying46 hN (u64_lit (x := p / 64) (by omega)) (anW ((f (p / 64)).getD 0) (p % 64).toNat)
    have hrun : (Instr.mapUpdate 46 (.map (some mb)) (.int .u64 (p / 64)) (.int .u64 (bits .andNot .u64 ((f (p / 64)).getD 0) (IntKind.u64.wrap (2 ^ (p % 64).toNat))))).run Try.prog w = .ok () w3 := hrun
    have ho3 : Only (fun k => k = mb) w w3 := (Only.refl _ w).turned ht3 (.inl rfl)
    have h3 : LogAt w3 b mb (N + 1) on (fun j => if j = p / 64 then some (anW ((f (p / 64)).getD 0) (p % 64).toNat) else f j) := ⟨h.blk.only ho3 h.ne, hm3⟩
    have c13 := h3.c1
    have hl3 := h3.look (k := p / 64) (u64_lit (by omega))
    simp only [if_true, Option.getD_some] at hl3
    have HO3 : Hid (Only (DS w b B) w w3) := Lib.hid (ho3.mono (fun k e => by subst e; exact .inr ⟨hB, map_blk h⟩))
    by_cases hz : anW ((f (p / 64)).getD 0) (p % 64).toNat = 0
    · rw [hz] at hl3
      obtain ⟨w4, hrun4, hm4, ht4⟩ := h3.m.drop keyedU Try.underlying29 (t := 46) Try.underlying46 (u64_lit (x := p / 64) (by omega)) 0
      have ho4 : Only (fun k => k = mb) w3 w4 := (Only.refl _ w3).turned ht4 (.inl rfl)
      have HD4 : Hid (DirE w4 b B on (fun q => P q && !(q == p)) (N + 1)) := Lib.hid ⟨mb, _, L, ⟨h3.blk.only ho4 h3.ne, hm4⟩, hB, winv_forget hi hp (by simp only [if_true]; rw [hz]; rfl) (fun j hj => by simp only [hj, if_false]), by omega⟩
      have HO4 : Hid (Only (DS w b B) w w4) := Lib.hid ((ho3.trans (ho4.mono (fun k e => e))).mono (fun k e => by subst e; exact .inr ⟨hB, map_blk h⟩))
      generalize (f (p / 64)).getD 0 = v at *
      clear hm3 ht3 ho3 h hi hL h3 hm4 ht4 ho4 hz
      go_enter Try.func7, Try.ntmps7
      go_wp2_with fail
      refine hh.mono ?_; rintro e w1 ⟨rfl, rfl⟩
      go_wp2
      go_ret
      exact ⟨rfl, HD4.out, HO4.out⟩
    · have HD3 : Hid (DirE w3 b B on (fun q => P q && !(q == p)) (N + 1)) := Lib.hid ⟨mb, _, L, h3, hB, winv_forget hi hp (by simp only [if_true]; rfl) (fun j hj => by simp only [hj, if_false]), by omega⟩
      have hz' : (anW ((f (p / 64)).getD 0) (p % 64).toNat == 0) = false := by simpa using hz
      generalize hv : (f (p / 64)).getD 0 = v at *
      generalize anW v (p % 64).toNat = z at *
      clear hm3 ht3 ho3 h hi hL h3 hz hv
      go_enter Try.func7, Try.ntmps7
      go_wp2_with fail
      refine hh.mono ?_; rintro e w1 ⟨rfl, rfl⟩
      go_wp2
      go_ret
      exact ⟨rfl, HD3.out, HO3.out⟩
end Go.Proofs.Ythnefhkacgkacaa
