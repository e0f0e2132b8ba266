/- Package phys: Get, Write, Same. Package bytes: Clone, Equal. -/
import Derived.Test.YtkpngkdkkcadfaaPhc
import Derived.Lib.SliceRun
import Derived.Laws.BytesArg
import Derived.Lib.Bytes
namespace Go.Proofs.Ytkpngkdkkcadfaa
open Go.RowKit Mk

theorem nums_inj {g g' : Nat → Nat} {n : Nat} (hg : ∀ j, g j < 256) (hg' : ∀ j, g' j < 256) (h : strOfNums (byI g n) = strOfNums (byI g' n)) : ∀ j, j < n → g j = g' j := fun j hj => by
  have h1 := congrArg (fun s : ByteArray => s.data.toList[j]?) h
  simp only [strOfNums_data, List.getElem?_map, byI_get hj, Option.map_some] at h1
  injection h1 with h1
  have h2 := congrArg UInt8.toNat h1
  simp at h2
  have := hg j
  have := hg' j
  omega
theorem byI_congr {g g' : Nat → Nat} {n : Nat} (h : ∀ j, j < n → g j = g' j) : byI g n = byI g' n := by
  unfold byI
  exact List.map_congr_left fun j hj => by rw [h j (List.mem_range.1 hj)]
theorem pg_convert {w : World} {b : Nat} {g : Nat → Nat} (h : Pg w b g) (cap : Nat) : (convert 30 9 (.slice (some ⟨b, 0, none⟩) 4096 cap)).run Try.prog w = .ok (.string (strOfNums (byI g 4096))) w :=
  run_convert_bytes_arg (P := Try.prog) w 30 5 Try.underlying30 Try.underlying5 b 0 4096 cap (byI g 4096) byI_len (fun i hi => by
    rw [Nat.zero_add, h.2 i hi, List.getD_eq_getElem?_getD, byI_get hi]; rfl) 9 Try.underlying9
set_option maxRecDepth 100000 in
theorem pequal {w : World} {b b' cc cc' : Nat} {g g' : Nat → Nat} (h : Pg w b g) (h' : Pg w b' g') (hg : ∀ j, g j < 256) (hg' : ∀ j, g' j < 256) :
    Calls Try.prog 34 #[.slice (some ⟨b, 0, none⟩) 4096 cc, .slice (some ⟨b', 0, none⟩) 4096 cc'] w fun e w' => ∃ r, e = .returned (.bool r) ∧ (r = true ↔ ∀ j, j < 4096 → g j = g' j) ∧ w = w' := by
  have c1 := pg_convert h cc
  have c2 := pg_convert h' cc'
  obtain ⟨x, hx⟩ : ∃ x, strOfNums (byI g 4096) = x := ⟨_, rfl⟩
  obtain ⟨y, hy⟩ : ∃ y, strOfNums (byI g' 4096) = y := ⟨_, rfl⟩
  rw [hx] at c1
  rw [hy] at c2
  have HE := Lib.hid (show (x.toList == y.toList) = true ↔ ∀ j, j < 4096 → g j = g' j from by
    rw [beq_iff_eq, ← hx, ← hy, Lib.strOfNums_toList, Lib.strOfNums_toList]
    constructor
    · intro h9
      refine nums_inj hg hg' ?_
      have h8 : (strOfNums (byI g 4096)).data.toList = (strOfNums (byI g' 4096)).data.toList := h9
      exact ByteArray.ext (Array.toList_inj.1 h8)
    · intro h9
      rw [byI_congr h9])
  clear h h' hg hg' hx hy
  go_enter Try.func34, Try.ntmps34
  go_wp2
  go_ret
  exact ⟨_, rfl, HE.out, rfl⟩

set_option maxRecDepth 100000 in
theorem pclone {w : World} {b cc : Nat} {g : Nat → Nat} (h : Pg w b g) :
    Calls Try.prog 33 #[.slice (some ⟨b, 0, none⟩) 4096 cc] w fun e w' => ∃ v, e = .returned v ∧ BRow w' w.heap.size v g ∧ Below w.heap.size w w' := by
  have q22 : ∀ (w : World) (a : Option Addr) (n c n' c' : Nat), (binOp .eql 30 (.slice a n c) (.slice none n' c')).run Try.prog w = .ok (.bool a.isNone) w := fun w a n c n' c' => Lib.run_eql_slice_nil w _ _ a n c n' c' Try.underlying30
  obtain ⟨i0, hi0, hz0', hz1, hz2⟩ := info_parts infoY
  have HR := Lib.hid ((h.below (Below.alloc (Below.refl w.heap.size w) (Nat.le_refl _) (.cells #[] 5))).reads)
  clear h
  go_enter Try.func33, Try.ntmps33
  go_wp2_with (first
    | (at_builtin; refine wpList_append_any _ rfl (.tmp 5) (.tmp 6) _ rfl w.heap.size 5 i0 _ 1 1 Try.underlying30 hi0 hz0' hz1 hz2 rfl (by omega) _ 0 [] rfl (World.ownsRow_lit w #[] 0 (Nat.le_refl _) (by unfold maxLen; omega) rfl) _ _ 4096 cc (byL g 4096) rfl HR.out byL_one (by unfold maxLen; omega) (by omega) (by simp) ?_; intro v2 w4 hown2 hg4 hat2)
    | go_in)
  go_ret
  exact ⟨_, rfl, hown2, (Below.alloc (Below.refl w.heap.size w) (Nat.le_refl _) _).grown hg4 (by simp) (fun g h => by cases h; exact Nat.le_refl _)⟩

section
variable {w w' : World} {W c mb n : Nat} {PF : Ki → Option Value} {G : Int → Nat → Nat} {B : Nat → Prop}
theorem phas (h : Ph w W c mb n PF G) (k : Int) : Calls Try.prog 32 #[.pointer (some ⟨c, 0, none⟩), .int .i64 k] w fun e w' => e = .returned (.bool (decide (0 ≤ k ∧ k < n))) ∧ w = w' := by
  obtain ⟨o, hb⟩ := h.blk
  have c0 := (hb.cell 0).trans rfl
  clear h hb
  by_cases h0 : 0 ≤ k
  · have g1 : decide (k ≥ 0) = true := by simp; exact h0
    go_enter Try.func32, Try.ntmps32
    go_wp2
    go_ret
    exact ⟨by simp [h0], rfl⟩
  · have g1 : decide (k ≥ 0) = false := by simp; omega
    go_enter Try.func32, Try.ntmps32
    go_wp2
    go_ret
    exact ⟨rfl, rfl⟩
/-- What Get tells. -/
def GetIs (w : World) (n : Nat) (G : Int → Nat → Nat) (k : Int) (e : Ending) (w' : World) : Prop := Below w.heap.size w w' ∧ ((0 ≤ k ∧ k < n ∧ ∃ v, e = .returned (.tuple #[v, .int .i64 0]) ∧ BRow w' w.heap.size v (G k)) ∨ (¬ (0 ≤ k ∧ k < n) ∧ e = .returned (.tuple #[.slice none 0 0, .int .i64 2])))
theorem pget (hm : Pm w W c n G B) (k : Int) (hk : (Lit.int .i64 k).wf = true) : Calls Try.prog 9 #[.pointer (some ⟨c, 0, none⟩), .int .i64 k] w (GetIs w n G k) := by
  obtain ⟨mb, PF, h, rfl⟩ := hm
  have C := Lib.hid (phas h k)
  have D := Lib.hid (ppage h k hk)
  clear h
  by_cases h0 : 0 ≤ k ∧ k < n
  · rw [show decide (0 ≤ k ∧ k < n) = true from by simpa using h0] at C
    have H0 := Lib.hid h0
    clear h0
    go_enter Try.func9, Try.ntmps9
    go_wp2_with fail
    refine C.out.mono ?_; rintro e w1 ⟨rfl, rfl⟩
    go_wp2_with fail
    refine D.out.mono ?_; rintro e w2 ⟨b, cc, rfl, hp, hb⟩
    have HB := Lib.hid hb
    have HP := Lib.hid hp
    clear C D hb hp
    go_wp2_with fail
    refine (pclone HP.out).mono ?_; rintro e w3 ⟨v, rfl, hr, hb⟩
    have HR := Lib.hid (ownsRow_mono hr HB.out.size)
    have HB3 := Lib.hid (HB.out.trans (hb.mono HB.out.size))
    clear hr hb HP HB
    go_wp2
    go_ret2
    exact ⟨HB3.out, .inl ⟨H0.out.1, H0.out.2, _, rfl, HR.out⟩⟩
  · rw [show decide (0 ≤ k ∧ k < n) = false from by simpa using h0] at C
    have H0 := Lib.hid h0
    clear h0 D
    go_enter Try.func9, Try.ntmps9
    go_wp2_with fail
    refine C.out.mono ?_; rintro e w1 ⟨rfl, rfl⟩
    clear C
    go_wp2
    go_ret2
    exact ⟨Below.refl _ _, .inr ⟨H0.out, rfl⟩⟩
theorem psameF (hm : Pm w W c n G B) (a b : Int) (ha : (Lit.int .i64 a).wf = true) (hb : (Lit.int .i64 b).wf = true) (ha2 : 0 ≤ a ∧ a < n) (hb2 : 0 ≤ b ∧ b < n) :
    Calls Try.prog 23 #[.pointer (some ⟨c, 0, none⟩), .int .i64 a, .int .i64 b] w fun e w' => ∃ r, e = .returned (.bool r) ∧ (r = true ↔ ∀ j, j < 4096 → G a j = G b j) ∧ Below w.heap.size w w' := by
  obtain ⟨mb, PF, h, rfl⟩ := hm
  have C := Lib.hid (phas h a)
  have C2 := Lib.hid (phas h b)
  rw [show decide (0 ≤ a ∧ a < n) = true from by simpa using ha2] at C
  rw [show decide (0 ≤ b ∧ b < n) = true from by simpa using hb2] at C2
  have D := Lib.hid (ppage h a ha)
  have H := Lib.hid h
  clear h ha2 hb2
  go_enter Try.func23, Try.ntmps23
  go_wp2_with fail
  refine C.out.mono ?_; rintro e w1 ⟨rfl, rfl⟩
  go_wp2_with fail
  refine C2.out.mono ?_; rintro e w1 ⟨rfl, rfl⟩
  go_wp2_with fail
  refine D.out.mono ?_; rintro e w2 ⟨x, cc, rfl, hp, hx⟩
  have HB := Lib.hid hx
  have HP := Lib.hid hp
  clear C C2 D hx hp
  go_wp2_with fail
  refine (ppage (H.out.below HB.out) b hb).mono ?_; rintro e w3 ⟨y, cc', rfl, hp, hx⟩
  have HB3 := Lib.hid (HB.out.trans (hx.mono HB.out.size))
  replace HP := Lib.hid (HP.out.below hx)
  have HP2 := Lib.hid hp
  clear hx hp HB
  go_wp2_with fail
  refine (pequal HP.out HP2.out (H.out.byt _) (H.out.byt _)).mono ?_; rintro e w4 ⟨r, rfl, hr, rfl⟩
  have HR := Lib.hid hr
  clear hr HP HP2
  go_wp2
  go_ret
  exact ⟨r, by cases r <;> rfl, HR.out, HB3.out⟩
end
end Go.Proofs.Ytkpngkdkkcadfaa
